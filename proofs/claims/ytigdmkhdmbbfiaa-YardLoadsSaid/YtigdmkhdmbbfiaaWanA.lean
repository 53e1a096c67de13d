import Derived.Test.YtigdmkhdmbbfiaaNam
import Derived.Test.YtigdmkhdmbbfiaaPvZ9
/- Wants and parts, as the program reads them. No conditions. -/
set_option linter.unusedSimpArgs false
set_option linter.unusedVariables false
set_option maxRecDepth 100000
namespace Go.Proofs.Ytigdmkhdmbbfiaa
open Go Go.Pv

/-! ### Maps by names, with structs as values -/
def kps (s : ByteArray) : PV := .str s
theorem kps_eq (a b : ByteArray) : keyEq (kps a) (kps b) = decide (a = b) := by
  simp only [kps, keyEq, scEq]; try (rw [Bool.eq_iff_iff]; simp)
theorem kps_ok (a : ByteArray) : keyOk Try.prog 9 (kps a) := by
  show isStringTy Try.prog 9 = true
  kernel_rfl
def pag (p : Part) : PV := .agg p.enc
section
variable {α β : Type} [DecidableEq α] {f : α → PV} {g : β → PV} {P : Program} {ρ : Operand → PV} {h : Heap} {key : Key} {x y z : Operand} {t t' : TypeId}
theorem e_lookOk {kt et : TypeId} {k : Key} {l : List (α × β)} {a : α} {z : β} (hf : ∀ a b, keyEq (f a) (f b) = decide (a = b)) (hko : ∀ a, keyOk P kt (f a)) (hx : ρ x = .map k) (hy : ρ y = f a) (hm : MapAt h k (entsOf f g l)) (ht : mapTy P t = some (kt, et)) (hz : zeroFit P et = true) (hzv : zeroVal P et = g z) :
    eff P ρ h key (.lookup t x y true) = ⟨True, .tup [g ((aGet a l).getD z), .bool (aGet a l).isSome], [], [k], false⟩ := by
  have h1 : lookRes P et true (mapFind (f a) (entsOf f g l)) = .tup [g ((aGet a l).getD z), .bool (aGet a l).isSome] := by
    rw [mapFind_of hf]
    unfold lookRes
    rw [hzv]
    cases aGet a l <;> rfl
  obtain ⟨bs, clk, hm, _⟩ := hm
  simp only [eff, hx, hy, lookupEff, ht, hm, h1, hz]
  simp [hko a]
  exact fun u w hu => ents_ok (g := g) (l := l) hko (u, w) hu
theorem e_msetV {kt et : TypeId} {k : Key} {l : List (α × β)} {a : α} {b : β} (hf : ∀ a b, keyEq (f a) (f b) = decide (a = b)) (hko : ∀ a, keyOk P kt (f a)) (hx : ρ x = .map k) (hy : ρ y = f a) (hz : ρ z = g b) (hc : mval (g b) = true) (hm : MapAt h k (entsOf f g l)) (ht : mapTy P t = some (kt, et)) :
    eff P ρ h key (.mapUpdate t x y z) = ⟨True, .dead, [(k, some (mSet (h k) (f a) (g b)))], [k], false⟩ := by
  obtain ⟨bs, clk, hm, _⟩ := hm
  simp only [eff, hx, hy, hz, mapUpdateEff, ht, hm, mSet, hc]
  simp [hko a]
  exact fun u w hu => ents_ok (g := g) (l := l) hko (u, w) hu
end
/-! ### What wants and parts are -/
/-- The first error of wants of a least count, or 0. -/
def wantsE (lo : Int) : List Want → Int
  | [] => 0
  | w :: l => if isNm w.part = false then 4 else if ¬ (lo ≤ w.count ∧ w.count ≤ 1000000) then 2 else wantsE lo l
abbrev Ents := List (ByteArray × Part)
def badP (p : Part) : Prop := ¬ (0 ≤ p.square ∧ p.square ≤ 20000000000000) ∨ ¬ (0 ≤ p.mass ∧ p.mass ≤ 1000000)
instance (p : Part) : Decidable (badP p) := inferInstanceAs (Decidable (_ ∨ _))
def goP (m : Ents) : List Part → Int × Ents
  | [] => (0, m)
  | p :: l => if isNm p.name = false then (4, []) else if (aGet p.name m).isSome = true then (5, []) else if badP p then (2, []) else goP (aSet p.name p m) l
/-- The first error of parts, or 0; the parts by their names. -/
def partsE (ps : List Part) : Int := if 60 < ps.length then 8 else (goP [] ps).1
def partsM (ps : List Part) : Ents := (goP [] ps).2
def Part0 : Part := ⟨(⟨#[]⟩ : ByteArray), 0, 0, 0, 0, 0, 0⟩
def cpR (ps : List Part) (v : PV) (h : Heap) (c : Nat → Nat) : Prop := ∃ q, v = .tup [q, .int (partsE ps)] ∧ (partsE ps = 0 → q = .map (12, 0) ∧ MapAt h (12, 0) (entsOf kps pag (partsM ps)) ∧ 1 ≤ c 12)
theorem cp_big {ps : List Part} {q : PV} {h : Heap} {c : Nat → Nat} (hb : 60 < ps.length) : cpR ps (.tup [q, .int 8]) h c := by
  have e : partsE ps = 8 := if_pos hb
  exact ⟨q, by rw [e], fun h0 => absurd (e.symm.trans h0) (by decide)⟩
theorem cp_bad {ps : List Part} {q : PV} {h : Heap} {c : Nat → Nat} {z : Int} {m : Ents} (hb : ps.length ≤ 60) (hg : goP [] ps = (z, m)) (hz : z ≠ 0) : cpR ps (.tup [q, .int z]) h c := by
  have e : partsE ps = z := by rw [partsE, if_neg (by omega), hg]
  exact ⟨q, by rw [e], fun h0 => absurd (e.symm.trans h0) hz⟩
theorem cp_ok {ps : List Part} {h : Heap} {c : Nat → Nat} {m : Ents} (hb : ps.length ≤ 60) (hg : goP [] ps = (0, m)) (hm : MapAt h (12, 0) (entsOf kps pag m)) (hc : 1 ≤ c 12) : cpR ps (.tup [.map (12, 0), .int 0]) h c := by
  have e : partsE ps = 0 := by rw [partsE, if_neg (by omega), hg]
  exact ⟨_, by rw [e], fun _ => ⟨rfl, by rw [partsM, hg]; exact hm, hc⟩⟩
theorem wsz {ws : List Want} (hs : ∀ x ∈ ws, x.part.size ≤ 30) {i : Nat} {x : Want} (hx : ws[i]? = some x) : x.part.size ≤ 30 := hs x (List.mem_of_getElem? hx)
theorem psz {ps : List Part} (hs : ∀ x ∈ ps, x.name.size ≤ 30) {i : Nat} {x : Part} (hx : ps[i]? = some x) : x.name.size ≤ 30 := hs x (List.mem_of_getElem? hx)

theorem fr102 : (inFrame Try.f102.ntmps (Try.f102.body.getD .skip) && Try.f102.results.toList.all (resScope Try.f102.ntmps)) = true := by kernel_rfl
theorem checkWants (ws : List Want) (lo : Int) (hl : ws.length ≤ 70) (hs : ∀ x ∈ ws, x.part.size ≤ 30) : PCalls Try.prog 102 [.lit true 2 (ws.map Want.enc), .int lo] (.int (wantsE lo ws)) := by
  refine PCalls.of_code Try.func102 rfl rfl (by kernel_rfl) mixed fr102 (by show _ ≤ 25; simp) (.sc _) ?_
  refine pwp_seq_plain rfl fun K1 hK1 => ?_
  refine p_step rfl (e_assign (v := .sc _) rfl) trivial ?_
  refine p_end (hK1 _ ?_); clear hK1 K1
  refine pwp_seq_seq ?_
  refine pwp_seq_plain rfl fun K2 hK2 => ?_
  refine p_step rfl (e_move (v := .lit _ _ _) rfl) trivial ?_
  refine p_step rfl (e_len rfl (by kernel_rfl)) trivial ?_
  refine p_step rfl (e_move (v := .sc _) rfl) trivial ?_
  refine p_end (hK2 _ ?_); clear hK2 K2
  refine pwp_seq_block fun K3 hK3 => ?_
  refine pwp_loopR (α := Nat) [1, 7, 8] (fun (k : Nat) => [(9, .int (k))]) (fun (k : Nat) (h : Heap) (_ : Nat → Nat) => ((k) ≤ ws.length) ∧ (wantsE lo ws = wantsE lo (ws.drop (k)))) (fun (k : Nat) => ws.length - (k)) (0) (by exact ⟨rfl, trivial⟩) (by exact ⟨by exact Nat.zero_le _, by exact rfl⟩) fun k r4 h5 c6 hj7 => ?_
  obtain ⟨hk, hinv⟩ := hj7
  try dsimp only at hk
  try dsimp only at hinv
  show pwp _ _ (loopQ _ _ _) ⟨sets (mix _ _ _) [(9, .int k)], _, _⟩
  refine pwp_seq_plain rfl fun K8 hK8 => ?_
  refine p_step rfl (e_lt rfl rfl) trivial ?_
  refine p_end (hK8 _ ?_); clear hK8 K8
  refine pwp_seq_cond rfl fun K9 hK9 => ⟨fun hb10 => ?_, fun hb10 => ?_⟩
  ·have hb10R := hb10; try simp only [z1, z2, z3, z4, z5, z6, ne_eq, z7, z8, z9, z10, z11, z12] at hb10
   obtain ⟨x, hx, hd, ht⟩ := get_lt (xs := ws) (i := k) (by omega)
   rw [hd] at hinv; simp only [wantsE] at hinv
   have hsz := wsz hs hx
   refine pwp_skip ?_
   refine seq_norm (hK9 _ ?_); clear hK9 K9
   refine pwp_seq_block fun K11 hK11 => ?_
   refine pwp_seq_plain rfl fun K12 hK12 => ?_
   refine p_step rfl (e_ixa rfl rfl (by kernel_rfl) (by kernel_rfl) (by simp only [List.length_map]; omega)) trivial ?_
   refine p_step rfl (e_loadA (n := 2) rfl (by kernel_rfl) (by kernel_rfl) (by kernel_rfl) (by simp only [List.length_map]; omega) (by decide) (by first | exact agg_map hx rfl)) trivial ?_
   refine p_new rfl (e_alloc (cs := [.str ByteArray.empty, .int 0]) (n := 2) (by kernel_rfl) rfl (by decide)) (ob_alloc (by decide)) ?_
   refine p_store rfl (e_storeA rfl (hset_self _ _ _) rfl rfl rfl (by kernel_rfl) rfl (by kernel_rfl)) trivial ?_
   refine p_end (hK12 _ ?_); clear hK12 K12
   refine pwp_block ?_
   refine pwp_seq_plain rfl fun K13 hK13 => ?_
   refine p_step rfl (e_faP (pl := [(0, 1, false), (1, 1, false)]) rfl (by kernel_rfl) (by kernel_rfl) (by decide) rfl) trivial ?_
   refine p_step rfl (e_loadH (v := .sc _) rfl (hset_self _ _ _) (by kernel_rfl) (by kernel_rfl) (by kernel_rfl) (by exact Nat.zero_lt_one) (by decide) rfl) trivial ?_
   refine p_call rfl (.cons inn_sc .nil) (isName _ (by omega)) ?_
   refine p_step rfl (e_not rfl) trivial ?_
   refine p_step rfl (e_assign (v := .sc _) rfl) trivial ?_
   refine p_end (hK13 _ ?_); clear hK13 K13
   refine pwp_cond rfl (fun hb14 => ?_) (fun hb14 => ?_)
   ·have hb14R := hb14; try simp only [z1, z2, z3, z4, z5, z6, ne_eq, z7, z8, z9, z10, z11, z12] at hb14
    refine pwp_seq_plain rfl fun K15 hK15 => ?_
    refine p_step rfl (e_assign (v := .sc _) rfl) trivial ?_
    refine p_end (hK15 _ ?_); clear hK15 K15
    refine pwp_ret ?_
    refine ret_block ?_
    refine ret_block ?_
    refine ret_seq ?_
    refine ret_loop ?_
    refine ret_block ?_
    refine ret_seq ?_
    refine end1 (v := .sc _) rfl ?_
    first
      | exact out_i (by rw [hinv, if_pos (by assumption)])
      | exact out_i (by rw [hinv, if_neg (by rw [Bool.not_eq_false]; assumption), if_pos (by omega)])
      | exact out_i (by rw [hinv])
   ·have hb14R := hb14; try simp only [z1, z2, z3, z4, z5, z6, ne_eq, z7, z8, z9, z10, z11, z12] at hb14
    refine pwp_seq_plain rfl fun K16 hK16 => ?_
    refine p_step rfl (e_faP (pl := [(0, 1, false), (1, 1, false)]) rfl (by kernel_rfl) (by kernel_rfl) (by decide) rfl) trivial ?_
    refine p_step rfl (e_loadH (v := .sc _) rfl (hset_self _ _ _) (by kernel_rfl) (by kernel_rfl) (by kernel_rfl) (by exact Nat.zero_lt_one) (by decide) rfl) trivial ?_
    refine p_step rfl (e_move (v := .sc _) rfl) trivial ?_
    refine p_call rfl (.cons inn_sc (.cons inn_sc (.cons inn_sc .nil))) (within _ _ _) ?_
    refine p_step rfl (e_not rfl) trivial ?_
    refine p_step rfl (e_assign (v := .sc _) rfl) trivial ?_
    refine p_end (hK16 _ ?_); clear hK16 K16
    refine pwp_cond rfl (fun hb17 => ?_) (fun hb17 => ?_)
    ·have hb17R := hb17; try simp only [z1, z2, z3, z4, z5, z6, ne_eq, z7, z8, z9, z10, z11, z12] at hb17
     refine pwp_seq_plain rfl fun K18 hK18 => ?_
     refine p_step rfl (e_assign (v := .sc _) rfl) trivial ?_
     refine p_end (hK18 _ ?_); clear hK18 K18
     refine pwp_ret ?_
     refine ret_block ?_
     refine ret_block ?_
     refine ret_seq ?_
     refine ret_loop ?_
     refine ret_block ?_
     refine ret_seq ?_
     refine end1 (v := .sc _) rfl ?_
     first
       | exact out_i (by rw [hinv, if_pos (by assumption)])
       | exact out_i (by rw [hinv, if_neg (by rw [Bool.not_eq_false]; assumption), if_pos (by omega)])
       | exact out_i (by rw [hinv])
    ·have hb17R := hb17; try simp only [z1, z2, z3, z4, z5, z6, ne_eq, z7, z8, z9, z10, z11, z12] at hb17
     refine pwp_skip ?_
     refine block_norm ?_
     refine block_norm ?_
     refine seq_norm (hK11 _ ?_); clear hK11 K11
     refine pwp_plain rfl fun K19 hK19 => ?_
     refine p_step rfl (e_add rfl rfl (by omega)) trivial ?_
     refine p_step rfl (e_move (v := .sc _) rfl) trivial ?_
     refine p_end (hK19 _ ?_); clear hK19 K19
     rw [if_neg (by rw [Bool.not_eq_false]; assumption), if_neg (by omega)] at hinv
     exact loop_again (k + 1) (by show _ < _; omega) ⟨rfl, rfl, rfl, trivial⟩ ⟨rfl, trivial⟩ (by exact ⟨by show _ + 1 ≤ _; omega, by exact hinv⟩)
  ·have hb10R := hb10; try simp only [z1, z2, z3, z4, z5, z6, ne_eq, z7, z8, z9, z10, z11, z12] at hb10
   obtain rfl : k = ws.length := by omega
   rw [List.drop_length] at hinv; simp only [wantsE] at hinv
   refine pwp_exit ?_
   refine exit_seq ?_
   clear hK9 K9
   refine exit_loop ?_
   refine exit_here ?_
   refine seq_norm (hK3 _ ?_); clear hK3 K3
   refine pwp_seq_plain rfl fun K20 hK20 => ?_
   refine p_step rfl (e_assign (v := .sc _) rfl) trivial ?_
   refine p_end (hK20 _ ?_); clear hK20 K20
   refine pwp_ret ?_
   refine end1 (v := .sc _) rfl ?_
   first
     | exact out_i (by rw [hinv, if_pos (by assumption)])
     | exact out_i (by rw [hinv, if_neg (by rw [Bool.not_eq_false]; assumption), if_pos (by omega)])
     | exact out_i (by rw [hinv])

theorem frH104 : (inFrame Try.f104.ntmps (Try.f104.body.getD .skip) && Try.f104.results.toList.all (resScope Try.f104.ntmps)) = true := by kernel_rfl
theorem checkParts (ps : List Part) (hl : ps.length ≤ 70) (hs : ∀ x ∈ ps, x.name.size ≤ 30) : HCallsR Try.prog 104 [.lit true 7 (ps.map Part.enc)] (fun _ => none) (fun _ => 0) (fun v h c => cpR ps v h c) := by
  refine HCallsR.of_code Try.func104 rfl rfl (by kernel_rfl) mixed frH104 (by show _ ≤ 50; simp) ?_
  refine pwp_seq_plain rfl fun K1 hK1 => ?_
  refine p_step rfl (e_assign (v := .sc _) rfl) trivial ?_
  refine p_step rfl (e_assign (v := .sc _) rfl) trivial ?_
  refine p_end (hK1 _ ?_); clear hK1 K1
  refine pwp_seq_seq ?_
  refine pwp_seq_plain rfl fun K2 hK2 => ?_
  refine p_step rfl (e_move (v := .lit _ _ _) rfl) trivial ?_
  refine p_step rfl (e_len rfl (by kernel_rfl)) trivial ?_
  refine p_step rfl (e_gt rfl rfl) trivial ?_
  refine p_end (hK2 _ ?_); clear hK2 K2
  refine pwp_seq_cond rfl fun K3 hK3 => ⟨fun hb4 => ?_, fun hb4 => ?_⟩
  ·have hb4R := hb4; try simp only [z1, z2, z3, z4, z5, z6, ne_eq, z7, z8, z9, z10, z11, z12] at hb4
   refine pwp_seq_plain rfl fun K5 hK5 => ?_
   refine p_step rfl (e_assign (v := .sc _) rfl) trivial ?_
   refine p_step rfl (e_assign (v := .sc _) rfl) trivial ?_
   refine p_end (hK5 _ ?_); clear hK5 K5
   refine pwp_ret ?_
   refine ret_seq ?_
   refine end2 (v := .sc _) (w := .sc _) rfl rfl ?_
   first
     | exact cp_big (by omega)
     | exact cp_bad (by omega) (by rw [hinv, if_pos (by assumption)]) (by decide)
     | exact cp_bad (by omega) (by rw [hinv, if_neg (by rw [Bool.not_eq_false]; assumption), if_pos (by assumption)]) (by decide)
     | exact cp_bad (by omega) (by rw [hinv, if_neg (by rw [Bool.not_eq_false]; assumption), if_neg (by rw [Bool.not_eq_true]; assumption), if_pos (by unfold badP; omega)]) (by decide)
     | exact cp_ok (by omega) hinv trivial hcn
  ·have hb4R := hb4; try simp only [z1, z2, z3, z4, z5, z6, ne_eq, z7, z8, z9, z10, z11, z12] at hb4
   refine pwp_skip ?_
   refine seq_norm (hK3 _ ?_); clear hK3 K3
   refine pwp_seq_plain rfl fun K6 hK6 => ?_
   refine p_new rfl (e_mkmap) trivial ?_
   refine p_step rfl (e_assign (v := .map _) rfl) trivial ?_
   refine p_end (hK6 _ ?_); clear hK6 K6
   refine pwp_seq_seq ?_
   refine pwp_seq_plain rfl fun K7 hK7 => ?_
   refine p_step rfl (e_move (v := .lit _ _ _) rfl) trivial ?_
   refine p_step rfl (e_len rfl (by kernel_rfl)) trivial ?_
   refine p_step rfl (e_move (v := .sc _) rfl) trivial ?_
   refine p_end (hK7 _ ?_); clear hK7 K7
   refine pwp_seq_block fun K8 hK8 => ?_
   refine pwp_loopR (α := Nat × Ents) [4, 13, 14] (fun (a9 : Nat × Ents) => [(15, .int (a9.1))]) (fun (a9 : Nat × Ents) (h : Heap) (c : Nat → Nat) => ((a9.1) ≤ ps.length) ∧ (goP [] ps = goP (a9.2) (ps.drop (a9.1))) ∧ (1 ≤ c 12) ∧ (MapAt h (12, 0) (entsOf kps pag (a9.2)))) (fun (a9 : Nat × Ents) => ps.length - (a9.1)) (0, []) (by exact ⟨rfl, trivial⟩) (by exact ⟨by exact Nat.zero_le _, by exact rfl, by simp [cset], MapAt.new⟩) fun a9 r10 h11 c12 hj13 => ?_
   obtain ⟨k, m⟩ := a9
   obtain ⟨hk, hinv, hcn, hihj13_0⟩ := hj13
   try dsimp only at hk
   try dsimp only at hinv
   try dsimp only at hcn
   try dsimp only at hihj13_0
   show pwp _ _ (loopQ _ _ _) ⟨sets (mix _ _ _) [(15, .int k)], _, _⟩
   refine pwp_seq_plain rfl fun K14 hK14 => ?_
   refine p_step rfl (e_lt rfl rfl) trivial ?_
   refine p_end (hK14 _ ?_); clear hK14 K14
   refine pwp_seq_cond rfl fun K15 hK15 => ⟨fun hb16 => ?_, fun hb16 => ?_⟩
   ·have hb16R := hb16; try simp only [z1, z2, z3, z4, z5, z6, ne_eq, z7, z8, z9, z10, z11, z12] at hb16
    obtain ⟨x, hx, hd, ht⟩ := get_lt (xs := ps) (i := k) (by omega)
    rw [hd] at hinv; simp only [goP] at hinv
    have hsz := psz hs hx
    refine pwp_skip ?_
    refine seq_norm (hK15 _ ?_); clear hK15 K15
    refine pwp_seq_block fun K17 hK17 => ?_
    refine pwp_seq_plain rfl fun K18 hK18 => ?_
    refine p_step rfl (e_ixa rfl rfl (by kernel_rfl) (by kernel_rfl) (by simp only [List.length_map]; omega)) trivial ?_
    refine p_step rfl (e_loadA (n := 7) rfl (by kernel_rfl) (by kernel_rfl) (by kernel_rfl) (by simp only [List.length_map]; omega) (by decide) (by first | exact agg_map hx rfl)) trivial ?_
    refine p_new rfl (e_alloc (cs := [.str ByteArray.empty, .int 0, .int 0, .int 0, .int 0, .int 0, .int 0]) (n := 7) (by kernel_rfl) rfl (by decide)) (ob_alloc (by decide)) ?_
    refine p_store rfl (e_storeA rfl (hset_self _ _ _) rfl rfl rfl (by kernel_rfl) rfl (by kernel_rfl)) trivial ?_
    refine p_end (hK18 _ ?_); clear hK18 K18
    refine pwp_seq_plain rfl fun K19 hK19 => ?_
    refine p_step rfl (e_move (v := .map _) rfl) trivial ?_
    refine p_step rfl (e_faP (pl := [(0, 1, false), (1, 1, false), (2, 1, false), (3, 1, false), (4, 1, false), (5, 2, true)]) rfl (by kernel_rfl) (by kernel_rfl) (by decide) rfl) trivial ?_
    refine p_step rfl (e_loadH (v := .sc _) rfl (hset_self _ _ _) (by kernel_rfl) (by kernel_rfl) (by kernel_rfl) (by exact Nat.zero_lt_one) (by decide) rfl) trivial ?_
    refine p_step rfl (e_lookOk (kt := 9) (et := 155) (f := kps) (g := pag) (a := x.name) (l := m) (z := Part0) kps_eq kps_ok rfl rfl (MapAt.keep hihj13_0 ((hset_ne (key_ne rfl)).trans ((hset_ne (key_ne rfl)).trans (rfl)))) (by kernel_rfl) (by kernel_rfl) (by first | rfl | kernel_rfl)) trivial ?_
    refine p_step rfl (e_move (v := .tup _) rfl) trivial ?_
    refine p_step rfl (e_ext (v := .agg _) rfl (by simp) rfl) trivial ?_
    refine p_step rfl (e_ext (v := .sc _) rfl (by simp) rfl) trivial ?_
    refine p_new rfl (e_alloc (cs := [.str ByteArray.empty, .int 0, .int 0, .int 0, .int 0, .int 0, .int 0]) (n := 7) (by kernel_rfl) rfl (by decide)) (ob_alloc (by decide)) ?_
    refine p_store rfl (e_storeA rfl (hset_self _ _ _) rfl rfl rfl (by kernel_rfl) rfl (by kernel_rfl)) trivial ?_
    refine p_step rfl (e_assign (v := .sc _) rfl) trivial ?_
    refine p_end (hK19 _ ?_); clear hK19 K19
    refine pwp_seq_block fun K20 hK20 => ?_
    refine pwp_seq_plain rfl fun K21 hK21 => ?_
    refine p_step rfl (e_faP (pl := [(0, 1, false), (1, 1, false), (2, 1, false), (3, 1, false), (4, 1, false), (5, 2, true)]) rfl (by kernel_rfl) (by kernel_rfl) (by decide) rfl) trivial ?_
    refine p_step rfl (e_loadH (v := .sc _) rfl ((hset_ne (key_ne rfl)).trans ((hset_ne (key_ne rfl)).trans (hset_self _ _ _))) (by kernel_rfl) (by kernel_rfl) (by kernel_rfl) (by exact Nat.zero_lt_one) (by decide) rfl) trivial ?_
    refine p_call rfl (.cons inn_sc .nil) (isName _ (by omega)) ?_
    refine p_step rfl (e_not rfl) trivial ?_
    refine p_step rfl (e_assign (v := .sc _) rfl) trivial ?_
    refine p_end (hK21 _ ?_); clear hK21 K21
    refine pwp_cond rfl (fun hb22 => ?_) (fun hb22 => ?_)
    ·have hb22R := hb22; try simp only [z1, z2, z3, z4, z5, z6, ne_eq, z7, z8, z9, z10, z11, z12] at hb22
     refine pwp_seq_plain rfl fun K23 hK23 => ?_
     refine p_step rfl (e_assign (v := .sc _) rfl) trivial ?_
     refine p_step rfl (e_assign (v := .sc _) rfl) trivial ?_
     refine p_end (hK23 _ ?_); clear hK23 K23
     refine pwp_ret ?_
     refine ret_block ?_
     refine ret_seq ?_
     refine ret_block ?_
     refine ret_seq ?_
     refine ret_loop ?_
     refine ret_block ?_
     refine ret_seq ?_
     refine end2 (v := .sc _) (w := .sc _) rfl rfl ?_
     first
       | exact cp_big (by omega)
       | exact cp_bad (by omega) (by rw [hinv, if_pos (by assumption)]) (by decide)
       | exact cp_bad (by omega) (by rw [hinv, if_neg (by rw [Bool.not_eq_false]; assumption), if_pos (by assumption)]) (by decide)
       | exact cp_bad (by omega) (by rw [hinv, if_neg (by rw [Bool.not_eq_false]; assumption), if_neg (by rw [Bool.not_eq_true]; assumption), if_pos (by unfold badP; omega)]) (by decide)
       | exact cp_ok (by omega) hinv (MapAt.keep hihj13_0 ((hset_ne (key_ne rfl)).trans ((hset_ne (key_ne rfl)).trans ((hset_ne (key_ne rfl)).trans ((hset_ne (key_ne rfl)).trans (rfl)))))) hcn
    ·have hb22R := hb22; try simp only [z1, z2, z3, z4, z5, z6, ne_eq, z7, z8, z9, z10, z11, z12] at hb22
     refine pwp_seq_plain rfl fun K24 hK24 => ?_
     refine p_step rfl (e_move (v := .sc _) rfl) trivial ?_
     refine p_step rfl (e_assign (v := .sc _) rfl) trivial ?_
     refine p_end (hK24 _ ?_); clear hK24 K24
     refine pwp_cond rfl (fun hb25 => ?_) (fun hb25 => ?_)
     ·have hb25R := hb25; try simp only [z1, z2, z3, z4, z5, z6, ne_eq, z7, z8, z9, z10, z11, z12] at hb25
      refine pwp_seq_plain rfl fun K26 hK26 => ?_
      refine p_step rfl (e_assign (v := .sc _) rfl) trivial ?_
      refine p_step rfl (e_assign (v := .sc _) rfl) trivial ?_
      refine p_end (hK26 _ ?_); clear hK26 K26
      refine pwp_ret ?_
      refine ret_block ?_
      refine ret_seq ?_
      refine ret_block ?_
      refine ret_seq ?_
      refine ret_loop ?_
      refine ret_block ?_
      refine ret_seq ?_
      refine end2 (v := .sc _) (w := .sc _) rfl rfl ?_
      first
        | exact cp_big (by omega)
        | exact cp_bad (by omega) (by rw [hinv, if_pos (by assumption)]) (by decide)
        | exact cp_bad (by omega) (by rw [hinv, if_neg (by rw [Bool.not_eq_false]; assumption), if_pos (by assumption)]) (by decide)
        | exact cp_bad (by omega) (by rw [hinv, if_neg (by rw [Bool.not_eq_false]; assumption), if_neg (by rw [Bool.not_eq_true]; assumption), if_pos (by unfold badP; omega)]) (by decide)
        | exact cp_ok (by omega) hinv (MapAt.keep hihj13_0 ((hset_ne (key_ne rfl)).trans ((hset_ne (key_ne rfl)).trans ((hset_ne (key_ne rfl)).trans ((hset_ne (key_ne rfl)).trans (rfl)))))) hcn
     ·have hb25R := hb25; try simp only [z1, z2, z3, z4, z5, z6, ne_eq, z7, z8, z9, z10, z11, z12] at hb25
      refine pwp_seq_cutG [4, 6, 13, 14, 15] [(33, .bool ((!(decide ((0) ≤ x.square ∧ x.square ≤ (20000000000000)))) || (!(decide ((0) ≤ x.mass ∧ x.mass ≤ (1000000))))))] (fun K27 hK27 => ?_) (fun r28 => ?_)
      ·skip
       refine pwp_gops rfl fun K29 hK29 => ?_
       refine g_begin ?_
       refine g_step rfl rfl rfl rfl (e_faP (pl := [(0, 1, false), (1, 1, false), (2, 1, false), (3, 1, false), (4, 1, false), (5, 2, true)]) rfl (by kernel_rfl) (by kernel_rfl) (by decide) rfl) trivial ?_
       refine g_step rfl rfl rfl rfl (e_loadH (v := .sc _) rfl ((hset_ne (key_ne rfl)).trans ((hset_ne (key_ne rfl)).trans (hset_self _ _ _))) (by kernel_rfl) (by kernel_rfl) (by kernel_rfl) (by exact Nat.zero_lt_one) (by decide) rfl) trivial ?_
       refine g_call rfl rfl rfl rfl (.cons inn_sc (.cons inn_sc (.cons inn_sc .nil))) (within _ _ _) ?_
       refine g_step rfl rfl rfl rfl (e_not rfl) trivial ?_
       refine g_step rfl rfl rfl rfl (e_move (v := .sc _) rfl) trivial ?_
       refine g_cases (fun hb30 => ?_) (fun hb30 => ?_)
       ·have hb30R := hb30; try simp only [z1, z2, z3, z4, z5, z6, ne_eq, z7, z8, z9, z10, z11, z12] at hb30
        refine g_skip rfl rfl rfl ?_
        refine g_skip rfl rfl rfl ?_
        refine g_nocall rfl rfl rfl ?_
        refine g_skip rfl rfl rfl ?_
        refine g_step rfl rfl rfl rfl (e_pickT (v := .sc _) rfl rfl) trivial ?_
        refine g_step rfl rfl rfl rfl (e_assign (v := .sc _) rfl) trivial ?_
        refine g_end (ds := [39, 40, 41, 42]) rfl rfl (hK29 _ ?_); clear hK29 K29
        exact seq_norm (hK27 _ ⟨rfl, rfl, rfl, rfl, rfl, trivial⟩ ⟨(congrArg PV.bool (show (true : Bool) = ((!(decide ((0) ≤ x.square ∧ x.square ≤ (20000000000000)))) || (!(decide ((0) ≤ x.mass ∧ x.mass ≤ (1000000))))) by first | rfl | ((try rw [hb30R]) <;> (first | rfl | (simp only [Bool.and_true, Bool.and_false, Bool.true_and, Bool.false_and, Bool.or_true, Bool.or_false, Bool.true_or, Bool.false_or, Bool.not_true, Bool.not_false, if_true, if_false, Bool.false_eq_true, reduceIte] <;> rfl))) | (simp only [hb30R, Bool.and_true, Bool.and_false, Bool.true_and, Bool.false_and, Bool.or_true, Bool.or_false, Bool.true_or, Bool.false_or, Bool.not_true, Bool.not_false, if_true, if_false, Bool.false_eq_true, reduceIte] <;> rfl))), trivial⟩)
       ·have hb30R := hb30; try simp only [z1, z2, z3, z4, z5, z6, ne_eq, z7, z8, z9, z10, z11, z12] at hb30
        refine g_step rfl rfl rfl rfl (e_faP (pl := [(0, 1, false), (1, 1, false), (2, 1, false), (3, 1, false), (4, 1, false), (5, 2, true)]) rfl (by kernel_rfl) (by kernel_rfl) (by decide) rfl) trivial ?_
        refine g_step rfl rfl rfl rfl (e_loadH (v := .sc _) rfl ((hset_ne (key_ne rfl)).trans ((hset_ne (key_ne rfl)).trans (hset_self _ _ _))) (by kernel_rfl) (by kernel_rfl) (by kernel_rfl) (by exact Nat.zero_lt_one) (by decide) rfl) trivial ?_
        refine g_call rfl rfl rfl rfl (.cons inn_sc (.cons inn_sc (.cons inn_sc .nil))) (within _ _ _) ?_
        refine g_step rfl rfl rfl rfl (e_not rfl) trivial ?_
        refine g_step rfl rfl rfl rfl (e_pickF (v := .sc _) rfl rfl) trivial ?_
        refine g_step rfl rfl rfl rfl (e_assign (v := .sc _) rfl) trivial ?_
        refine g_end (ds := [39, 40, 41, 42]) rfl rfl (hK29 _ ?_); clear hK29 K29
        exact seq_norm (hK27 _ ⟨rfl, rfl, rfl, rfl, rfl, trivial⟩ ⟨(congrArg PV.bool (show ((!(decide ((0) ≤ x.mass ∧ x.mass ≤ (1000000)))) : Bool) = ((!(decide ((0) ≤ x.square ∧ x.square ≤ (20000000000000)))) || (!(decide ((0) ≤ x.mass ∧ x.mass ≤ (1000000))))) by first | rfl | ((try rw [hb30R]) <;> (first | rfl | (simp only [Bool.and_true, Bool.and_false, Bool.true_and, Bool.false_and, Bool.or_true, Bool.or_false, Bool.true_or, Bool.false_or, Bool.not_true, Bool.not_false, if_true, if_false, Bool.false_eq_true, reduceIte] <;> rfl))) | (simp only [hb30R, Bool.and_true, Bool.and_false, Bool.true_and, Bool.false_and, Bool.or_true, Bool.or_false, Bool.true_or, Bool.false_or, Bool.not_true, Bool.not_false, if_true, if_false, Bool.false_eq_true, reduceIte] <;> rfl))), trivial⟩)
      ·skip
       refine pwp_cond rfl (fun hb31 => ?_) (fun hb31 => ?_)
       ·have hb31R := hb31; try simp only [z1, z2, z3, z4, z5, z6, ne_eq, z7, z8, z9, z10, z11, z12] at hb31
        refine pwp_seq_plain rfl fun K32 hK32 => ?_
        refine p_step rfl (e_assign (v := .sc _) rfl) trivial ?_
        refine p_step rfl (e_assign (v := .sc _) rfl) trivial ?_
        refine p_end (hK32 _ ?_); clear hK32 K32
        refine pwp_ret ?_
        refine ret_block ?_
        refine ret_seq ?_
        refine ret_block ?_
        refine ret_seq ?_
        refine ret_loop ?_
        refine ret_block ?_
        refine ret_seq ?_
        refine end2 (v := .sc _) (w := .sc _) rfl rfl ?_
        first
          | exact cp_big (by omega)
          | exact cp_bad (by omega) (by rw [hinv, if_pos (by assumption)]) (by decide)
          | exact cp_bad (by omega) (by rw [hinv, if_neg (by rw [Bool.not_eq_false]; assumption), if_pos (by assumption)]) (by decide)
          | exact cp_bad (by omega) (by rw [hinv, if_neg (by rw [Bool.not_eq_false]; assumption), if_neg (by rw [Bool.not_eq_true]; assumption), if_pos (by unfold badP; omega)]) (by decide)
          | exact cp_ok (by omega) hinv (MapAt.keep hihj13_0 ((hset_ne (key_ne rfl)).trans ((hset_ne (key_ne rfl)).trans ((hset_ne (key_ne rfl)).trans ((hset_ne (key_ne rfl)).trans (rfl)))))) hcn
       ·have hb31R := hb31; try simp only [z1, z2, z3, z4, z5, z6, ne_eq, z7, z8, z9, z10, z11, z12] at hb31
        refine pwp_skip ?_
        refine block_norm ?_
        refine seq_norm (hK20 _ ?_); clear hK20 K20
        refine pwp_plain rfl fun K33 hK33 => ?_
        refine p_step rfl (e_move (v := .map _) rfl) trivial ?_
        refine p_step rfl (e_faP (pl := [(0, 1, false), (1, 1, false), (2, 1, false), (3, 1, false), (4, 1, false), (5, 2, true)]) rfl (by kernel_rfl) (by kernel_rfl) (by decide) rfl) trivial ?_
        refine p_step rfl (e_loadH (v := .sc _) rfl ((hset_ne (key_ne rfl)).trans ((hset_ne (key_ne rfl)).trans (hset_self _ _ _))) (by kernel_rfl) (by kernel_rfl) (by kernel_rfl) (by exact Nat.zero_lt_one) (by decide) rfl) trivial ?_
        refine p_step rfl (e_loadHA (n := 7) rfl ((hset_ne (key_ne rfl)).trans ((hset_ne (key_ne rfl)).trans (hset_self _ _ _))) (by kernel_rfl) (by kernel_rfl) (by kernel_rfl) (by exact Nat.zero_lt_one) (by decide) rfl) trivial ?_
        refine p_store rfl (e_msetV (kt := 9) (et := 155) (f := kps) (g := pag) (a := x.name) (b := x) (l := m) kps_eq kps_ok rfl rfl rfl rfl (MapAt.keep hihj13_0 ((hset_ne (key_ne rfl)).trans ((hset_ne (key_ne rfl)).trans ((hset_ne (key_ne rfl)).trans ((hset_ne (key_ne rfl)).trans (rfl)))))) (by kernel_rfl)) trivial ?_
        refine p_end (hK33 _ ?_); clear hK33 K33
        refine block_norm ?_
        refine seq_norm (hK17 _ ?_); clear hK17 K17
        refine pwp_plain rfl fun K34 hK34 => ?_
        refine p_step rfl (e_add rfl rfl (by omega)) trivial ?_
        refine p_step rfl (e_move (v := .sc _) rfl) trivial ?_
        refine p_end (hK34 _ ?_); clear hK34 K34
        rw [if_neg (by rw [Bool.not_eq_false]; assumption), if_neg (by rw [Bool.not_eq_true]; assumption), if_neg (by unfold badP; omega)] at hinv
        exact loop_again ((k + 1, aSet x.name x m)) (by show _ < _; simp only; omega) ⟨rfl, rfl, rfl, trivial⟩ ⟨rfl, trivial⟩ (by exact ⟨by show _ + 1 ≤ _; omega, by exact hinv, by simp [cset]; exact hcn, (MapAt.set kps_eq (MapAt.keep hihj13_0 ((hset_ne (key_ne rfl)).trans ((hset_ne (key_ne rfl)).trans ((hset_ne (key_ne rfl)).trans ((hset_ne (key_ne rfl)).trans (rfl)))))) x.name x)⟩)
   ·have hb16R := hb16; try simp only [z1, z2, z3, z4, z5, z6, ne_eq, z7, z8, z9, z10, z11, z12] at hb16
    obtain rfl : k = ps.length := by omega
    rw [List.drop_length] at hinv; simp only [goP] at hinv
    refine pwp_exit ?_
    refine exit_seq ?_
    clear hK15 K15
    refine exit_loop ?_
    refine exit_here ?_
    refine seq_norm (hK8 _ ?_); clear hK8 K8
    refine pwp_seq_plain rfl fun K35 hK35 => ?_
    refine p_step rfl (e_move (v := .map _) rfl) trivial ?_
    refine p_step rfl (e_assign (v := .map _) rfl) trivial ?_
    refine p_step rfl (e_assign (v := .sc _) rfl) trivial ?_
    refine p_end (hK35 _ ?_); clear hK35 K35
    refine pwp_ret ?_
    refine end2 (v := .map _) (w := .sc _) rfl rfl ?_
    first
      | exact cp_big (by omega)
      | exact cp_bad (by omega) (by rw [hinv, if_pos (by assumption)]) (by decide)
      | exact cp_bad (by omega) (by rw [hinv, if_neg (by rw [Bool.not_eq_false]; assumption), if_pos (by assumption)]) (by decide)
      | exact cp_bad (by omega) (by rw [hinv, if_neg (by rw [Bool.not_eq_false]; assumption), if_neg (by rw [Bool.not_eq_true]; assumption), if_pos (by unfold badP; omega)]) (by decide)
      | exact cp_ok (by omega) hinv hihj13_0 hcn

end Go.Proofs.Ytigdmkhdmbbfiaa

/- The parts of wants, as the program finds them. No conditions. -/
set_option linter.unusedSimpArgs false
set_option linter.unusedVariables false
set_option maxRecDepth 100000
namespace Go.Proofs.Ytigdmkhdmbbfiaa
open Go Go.Pv

/-- The parts of wants, or the first error. -/
def goF (m : Ents) (acc : List Part) : List Want → Int × List Part
  | [] => (0, acc)
  | w :: l => if (aGet w.part m).isSome = true then goF m (acc ++ [(aGet w.part m).getD Part0]) l else (6, [])
def wantR (ws : List Want) (ps : List Part) : Int × List Part :=
  if 60 < ws.length then (11, []) else if wantsE 0 ws ≠ 0 then (wantsE 0 ws, []) else if partsE ps ≠ 0 then (partsE ps, []) else goF (partsM ps) [] ws
theorem goF_len {m : Ents} : ∀ {l : List Want} {acc : List Part}, (goF m acc l).1 = 0 → (goF m acc l).2.length = acc.length + l.length
  | [], acc, _ => by simp [goF]
  | w :: l, acc, h => by
    unfold goF at h ⊢
    split at h
    · rename_i hs
      rw [if_pos hs, goF_len h]; simp; omega
    · cases h
theorem wantR_len {ws : List Want} {ps : List Part} (h : (wantR ws ps).1 = 0) : (wantR ws ps).2.length = ws.length ∧ ws.length ≤ 60 := by
  unfold wantR at h ⊢
  split at h
  · cases h
  · rename_i h1
    split at h
    · rename_i h2; exact absurd h h2
    · rename_i h2
      split at h
      · rename_i h3; exact absurd h h3
      · rename_i h3
        rw [if_neg h1, if_neg h2, if_neg h3, goF_len h]; simp; omega
theorem part_clean (a : Part) : ∀ p ∈ a.enc, Go.Pv.Clean p ∧ p.cell = true := fun p hp => by
  simp only [Part.enc, List.mem_cons, List.not_mem_nil, or_false] at hp
  rcases hp with rfl | rfl | rfl | rfl | rfl | rfl | rfl <;> exact ⟨.sc _, rfl⟩
theorem wr_out {h : Heap} {ws : List Want} {ps : List Part} {z : Int} {d : Nat} {u : PV} {acc : List Part} (hr : wantR ws ps = (z, acc)) (hs : SliceAt h d u 7 (acc.map Part.enc)) : Out h (.tup [u, .int z]) (.tup [.lit false 7 ((wantR ws ps).2.map Part.enc), .int (wantR ws ps).1]) := by
  rw [hr]; exact out_2 (out_slice hs rfl (fun _ => rfl) part_clean) (out_i rfl)
theorem wr_out0 {h : Heap} {ws : List Want} {ps : List Part} {z : Int} (hr : wantR ws ps = (z, [])) : Out h (.tup [.nil, .int z]) (.tup [.lit false 7 ((wantR ws ps).2.map Part.enc), .int (wantR ws ps).1]) := by
  rw [hr]; exact out_2 (.nil 7) (out_i rfl)
theorem wr_1 {ws : List Want} {ps : List Part} (h : 60 < ws.length) : wantR ws ps = (11, []) := by rw [wantR, if_pos h]
theorem wr_2 {ws : List Want} {ps : List Part} (h1 : ws.length ≤ 60) (h : ¬ wantsE 0 ws = 0) : wantR ws ps = (wantsE 0 ws, []) := by rw [wantR, if_neg (by omega), if_pos h]
theorem wr_3 {ws : List Want} {ps : List Part} (h1 : ws.length ≤ 60) (h : wantsE 0 ws = 0) (h2 : ¬ partsE ps = 0) : wantR ws ps = (partsE ps, []) := by rw [wantR, if_neg (by omega), if_neg (by simpa using h), if_pos h2]
theorem wr_4 {ws : List Want} {ps : List Part} (h1 : ws.length ≤ 60) (h : wantsE 0 ws = 0) (h2 : partsE ps = 0) {r : Int × List Part} (h3 : goF (partsM ps) [] ws = r) : wantR ws ps = r := by rw [wantR, if_neg (by omega), if_neg (by simpa using h), if_neg (by simpa using h2), h3]

theorem fr82 : (inFrame Try.f82.ntmps (Try.f82.body.getD .skip) && Try.f82.results.toList.all (resScope Try.f82.ntmps)) = true := by kernel_rfl
theorem wanted (ws : List Want) (ps : List Part) (hl : ws.length ≤ 70) (hl2 : ps.length ≤ 70) (hs : ∀ x ∈ ws, x.part.size ≤ 30) (hps : ∀ x ∈ ps, x.name.size ≤ 30) : PCalls Try.prog 82 [.lit true 2 (ws.map Want.enc), .lit true 7 (ps.map Part.enc)] (.tup [.lit false 7 ((wantR ws ps).2.map Part.enc), .int (wantR ws ps).1]) := by
  refine PCalls.of_code Try.func82 rfl rfl (by kernel_rfl) mixed fr82 (by show _ ≤ 51; simp) (pure_2 (.lit _ _ _ fun row hr => pure_map Part.pure row hr) (.sc _)) ?_
  refine pwp_seq_plain rfl fun K1 hK1 => ?_
  refine p_step rfl (e_assign (v := .nil) rfl) trivial ?_
  refine p_step rfl (e_assign (v := .sc _) rfl) trivial ?_
  refine p_end (hK1 _ ?_); clear hK1 K1
  refine pwp_seq_seq ?_
  refine pwp_seq_plain rfl fun K2 hK2 => ?_
  refine p_step rfl (e_move (v := .lit _ _ _) rfl) trivial ?_
  refine p_step rfl (e_len rfl (by kernel_rfl)) trivial ?_
  refine p_step rfl (e_gt rfl rfl) trivial ?_
  refine p_end (hK2 _ ?_); clear hK2 K2
  refine pwp_seq_cond rfl fun K3 hK3 => ⟨fun hb4 => ?_, fun hb4 => ?_⟩
  ·have hb4R := hb4; try simp only [z1, z2, z3, z4, z5, z6, ne_eq, z7, z8, z9, z10, z11, z12] at hb4
   refine pwp_seq_plain rfl fun K5 hK5 => ?_
   refine p_step rfl (e_assign (v := .nil) rfl) trivial ?_
   refine p_step rfl (e_assign (v := .sc _) rfl) trivial ?_
   refine p_end (hK5 _ ?_); clear hK5 K5
   refine pwp_ret ?_
   refine ret_seq ?_
   refine end2 (v := .nil) (w := .sc _) rfl rfl ?_
   first
     | exact wr_out0 (wr_1 (by omega))
     | exact wr_out0 (wr_2 (by omega) (by assumption))
     | exact wr_out0 (wr_3 (by omega) (by assumption) (by assumption))
     | exact wr_out0 (wr_4 (by omega) (by assumption) (by assumption) (by rw [hinv, if_neg (by rw [Bool.not_eq_true]; assumption)]))
  ·have hb4R := hb4; try simp only [z1, z2, z3, z4, z5, z6, ne_eq, z7, z8, z9, z10, z11, z12] at hb4
   refine pwp_skip ?_
   refine seq_norm (hK3 _ ?_); clear hK3 K3
   refine pwp_seq_seq ?_
   refine pwp_seq_plain rfl fun K6 hK6 => ?_
   refine p_step rfl (e_move (v := .lit _ _ _) rfl) trivial ?_
   refine p_call rfl (.cons inn_lit (.cons inn_sc .nil)) (checkWants _ _ (by omega) (by assumption)) ?_
   refine p_step rfl (e_assign (v := .sc _) rfl) trivial ?_
   refine p_end (hK6 _ ?_); clear hK6 K6
   refine pwp_seq_seq ?_
   refine pwp_seq_plain rfl fun K7 hK7 => ?_
   refine p_step rfl (e_move (v := .sc _) rfl) trivial ?_
   refine p_step rfl (e_ne rfl rfl) trivial ?_
   refine p_end (hK7 _ ?_); clear hK7 K7
   refine pwp_seq_cond rfl fun K8 hK8 => ⟨fun hb9 => ?_, fun hb9 => ?_⟩
   ·have hb9R := hb9; try simp only [z1, z2, z3, z4, z5, z6, ne_eq, z7, z8, z9, z10, z11, z12] at hb9
    refine pwp_seq_plain rfl fun K10 hK10 => ?_
    refine p_step rfl (e_move (v := .sc _) rfl) trivial ?_
    refine p_step rfl (e_assign (v := .nil) rfl) trivial ?_
    refine p_step rfl (e_assign (v := .sc _) rfl) trivial ?_
    refine p_end (hK10 _ ?_); clear hK10 K10
    refine pwp_ret ?_
    refine ret_seq ?_
    refine end2 (v := .nil) (w := .sc _) rfl rfl ?_
    first
      | exact wr_out0 (wr_1 (by omega))
      | exact wr_out0 (wr_2 (by omega) (by assumption))
      | exact wr_out0 (wr_3 (by omega) (by assumption) (by assumption))
      | exact wr_out0 (wr_4 (by omega) (by assumption) (by assumption) (by rw [hinv, if_neg (by rw [Bool.not_eq_true]; assumption)]))
   ·have hb9R := hb9; try simp only [z1, z2, z3, z4, z5, z6, ne_eq, z7, z8, z9, z10, z11, z12] at hb9
    refine pwp_skip ?_
    refine seq_norm (hK8 _ ?_); clear hK8 K8
    refine pwp_seq_plain rfl fun K11 hK11 => ?_
    refine p_step rfl (e_move (v := .lit _ _ _) rfl) trivial ?_
    refine p_hcall rfl (checkParts ps (by omega) hps) fun v12 h13 c14 hR15 => ?_
    obtain ⟨q16, rfl, hmp⟩ := hR15
    refine p_step rfl (e_move (v := .tup _) rfl) trivial ?_
    refine p_step rfl (e_ext (v := _) rfl (by simp) rfl) trivial ?_
    refine p_step rfl (e_ext (v := .sc _) rfl (by simp) rfl) trivial ?_
    refine p_step rfl (e_assign (v := _) rfl) trivial ?_
    refine p_step rfl (e_assign (v := .sc _) rfl) trivial ?_
    refine p_end (hK11 _ ?_); clear hK11 K11
    refine pwp_seq_seq ?_
    refine pwp_seq_plain rfl fun K17 hK17 => ?_
    refine p_step rfl (e_move (v := .sc _) rfl) trivial ?_
    refine p_step rfl (e_ne rfl rfl) trivial ?_
    refine p_end (hK17 _ ?_); clear hK17 K17
    refine pwp_seq_cond rfl fun K18 hK18 => ⟨fun hb19 => ?_, fun hb19 => ?_⟩
    ·have hb19R := hb19; try simp only [z1, z2, z3, z4, z5, z6, ne_eq, z7, z8, z9, z10, z11, z12] at hb19
     refine pwp_seq_plain rfl fun K20 hK20 => ?_
     refine p_step rfl (e_move (v := .sc _) rfl) trivial ?_
     refine p_step rfl (e_assign (v := .nil) rfl) trivial ?_
     refine p_step rfl (e_assign (v := .sc _) rfl) trivial ?_
     refine p_end (hK20 _ ?_); clear hK20 K20
     refine pwp_ret ?_
     refine ret_seq ?_
     refine end2 (v := .nil) (w := .sc _) rfl rfl ?_
     first
       | exact wr_out0 (wr_1 (by omega))
       | exact wr_out0 (wr_2 (by omega) (by assumption))
       | exact wr_out0 (wr_3 (by omega) (by assumption) (by assumption))
       | exact wr_out0 (wr_4 (by omega) (by assumption) (by assumption) (by rw [hinv, if_neg (by rw [Bool.not_eq_true]; assumption)]))
    ·have hb19R := hb19; try simp only [z1, z2, z3, z4, z5, z6, ne_eq, z7, z8, z9, z10, z11, z12] at hb19
     refine pwp_skip ?_
     refine seq_norm (hK18 _ ?_); clear hK18 K18
     obtain ⟨rfl, hmm, hcn⟩ := hmp (by assumption)
     refine pwp_seq_plain rfl fun K21 hK21 => ?_
     refine p_step rfl (e_assign (v := .nil) rfl) trivial ?_
     refine p_end (hK21 _ ?_); clear hK21 K21
     refine pwp_seq_seq ?_
     refine pwp_seq_plain rfl fun K22 hK22 => ?_
     refine p_step rfl (e_move (v := .lit _ _ _) rfl) trivial ?_
     refine p_step rfl (e_len rfl (by kernel_rfl)) trivial ?_
     refine p_step rfl (e_move (v := .sc _) rfl) trivial ?_
     refine p_end (hK22 _ ?_); clear hK22 K22
     refine pwp_seq_block fun K23 hK23 => ?_
     refine pwp_loopR (α := Nat × (List Part) × PV) [7, 30, 31] (fun (a24 : Nat × (List Part) × PV) => [(9, (a24.2.2)), (32, .int (a24.1))]) (fun (a24 : Nat × (List Part) × PV) (h : Heap) (c : Nat → Nat) => ((a24.1) ≤ ws.length) ∧ (goF (partsM ps) [] ws = goF (partsM ps) (a24.2.1) (ws.drop (a24.1))) ∧ ((a24.2.1).length ≤ (a24.1)) ∧ (1 ≤ c 12) ∧ (SliceAt h 48 (a24.2.2) 7 ((a24.2.1).map Part.enc)) ∧ (MapAt h (12, 0) (entsOf kps pag (partsM ps)))) (fun (a24 : Nat × (List Part) × PV) => ws.length - (a24.1)) (0, [], _) (by exact ⟨rfl, rfl, trivial⟩) (by exact ⟨by exact Nat.zero_le _, by exact rfl, by exact Nat.zero_le _, by exact hcn, .nil, hmm⟩) fun a24 r25 h26 c27 hj28 => ?_
     obtain ⟨k, acc, v⟩ := a24
     obtain ⟨hk, hinv, hal, hcn, hihj28_0, hihj28_1⟩ := hj28
     try dsimp only at hk
     try dsimp only at hinv
     try dsimp only at hal
     try dsimp only at hcn
     try dsimp only at hihj28_0
     try dsimp only at hihj28_1
     show pwp _ _ (loopQ _ _ _) ⟨sets (mix _ _ _) [(9, v), (32, .int k)], _, _⟩
     refine pwp_seq_plain rfl fun K29 hK29 => ?_
     refine p_step rfl (e_lt rfl rfl) trivial ?_
     refine p_end (hK29 _ ?_); clear hK29 K29
     refine pwp_seq_cond rfl fun K30 hK30 => ⟨fun hb31 => ?_, fun hb31 => ?_⟩
     ·have hb31R := hb31; try simp only [z1, z2, z3, z4, z5, z6, ne_eq, z7, z8, z9, z10, z11, z12] at hb31
      obtain ⟨x, hx, hd, ht⟩ := get_lt (xs := ws) (i := k) (by omega)
      rw [hd] at hinv; simp only [goF] at hinv
      refine pwp_skip ?_
      refine seq_norm (hK30 _ ?_); clear hK30 K30
      refine pwp_seq_block fun K32 hK32 => ?_
      refine pwp_seq_plain rfl fun K33 hK33 => ?_
      refine p_step rfl (e_ixa rfl rfl (by kernel_rfl) (by kernel_rfl) (by simp only [List.length_map]; omega)) trivial ?_
      refine p_step rfl (e_loadA (n := 2) rfl (by kernel_rfl) (by kernel_rfl) (by kernel_rfl) (by simp only [List.length_map]; omega) (by decide) (by first | exact agg_map hx rfl)) trivial ?_
      refine p_new rfl (e_alloc (cs := [.str ByteArray.empty, .int 0]) (n := 2) (by kernel_rfl) rfl (by decide)) (ob_alloc (by decide)) ?_
      refine p_store rfl (e_storeA rfl (hset_self _ _ _) rfl rfl rfl (by kernel_rfl) rfl (by kernel_rfl)) trivial ?_
      refine p_end (hK33 _ ?_); clear hK33 K33
      refine pwp_seq_plain rfl fun K34 hK34 => ?_
      refine p_step rfl (e_move (v := .map _) rfl) trivial ?_
      refine p_step rfl (e_faP (pl := [(0, 1, false), (1, 1, false)]) rfl (by kernel_rfl) (by kernel_rfl) (by decide) rfl) trivial ?_
      refine p_step rfl (e_loadH (v := .sc _) rfl (hset_self _ _ _) (by kernel_rfl) (by kernel_rfl) (by kernel_rfl) (by exact Nat.zero_lt_one) (by decide) rfl) trivial ?_
      refine p_step rfl (e_lookOk (kt := 9) (et := 155) (f := kps) (g := pag) (a := x.part) (l := (partsM ps)) (z := Part0) kps_eq kps_ok rfl rfl (MapAt.keep hihj28_1 ((hset_ne (key_ne rfl)).trans ((hset_ne (key_ne rfl)).trans (rfl)))) (by kernel_rfl) (by kernel_rfl) (by first | rfl | kernel_rfl)) trivial ?_
      refine p_step rfl (e_move (v := .tup _) rfl) trivial ?_
      refine p_step rfl (e_ext (v := .agg _) rfl (by simp) rfl) trivial ?_
      refine p_step rfl (e_ext (v := .sc _) rfl (by simp) rfl) trivial ?_
      refine p_new rfl (e_alloc (cs := [.str ByteArray.empty, .int 0, .int 0, .int 0, .int 0, .int 0, .int 0]) (n := 7) (by kernel_rfl) rfl (by decide)) (ob_alloc (by decide)) ?_
      refine p_store rfl (e_storeA rfl (hset_self _ _ _) rfl rfl rfl (by kernel_rfl) rfl (by kernel_rfl)) trivial ?_
      refine p_step rfl (e_assign (v := .sc _) rfl) trivial ?_
      refine p_end (hK34 _ ?_); clear hK34 K34
      refine pwp_seq_seq ?_
      refine pwp_seq_plain rfl fun K35 hK35 => ?_
      refine p_step rfl (e_move (v := .sc _) rfl) trivial ?_
      refine p_step rfl (e_not rfl) trivial ?_
      refine p_end (hK35 _ ?_); clear hK35 K35
      refine pwp_seq_cond rfl fun K36 hK36 => ⟨fun hb37 => ?_, fun hb37 => ?_⟩
      ·have hb37R := hb37; try simp only [z1, z2, z3, z4, z5, z6, ne_eq, z7, z8, z9, z10, z11, z12] at hb37
       refine pwp_seq_plain rfl fun K38 hK38 => ?_
       refine p_step rfl (e_assign (v := .nil) rfl) trivial ?_
       refine p_step rfl (e_assign (v := .sc _) rfl) trivial ?_
       refine p_end (hK38 _ ?_); clear hK38 K38
       refine pwp_ret ?_
       refine ret_seq ?_
       refine ret_block ?_
       refine ret_seq ?_
       refine ret_loop ?_
       refine ret_block ?_
       refine ret_seq ?_
       refine end2 (v := .nil) (w := .sc _) rfl rfl ?_
       first
         | exact wr_out0 (wr_1 (by omega))
         | exact wr_out0 (wr_2 (by omega) (by assumption))
         | exact wr_out0 (wr_3 (by omega) (by assumption) (by assumption))
         | exact wr_out0 (wr_4 (by omega) (by assumption) (by assumption) (by rw [hinv, if_neg (by rw [Bool.not_eq_true]; assumption)]))
         | exact wr_out (wr_4 (by omega) (by assumption) (by assumption) hinv) (hihj28_0.keep fun _ => (hset_ne (key_ne rfl)).trans ((hset_ne (key_ne rfl)).trans ((hset_ne (key_ne rfl)).trans ((hset_ne (key_ne rfl)).trans (rfl)))))
      ·have hb37R := hb37; try simp only [z1, z2, z3, z4, z5, z6, ne_eq, z7, z8, z9, z10, z11, z12] at hb37
       refine pwp_skip ?_
       refine seq_norm (hK36 _ ?_); clear hK36 K36
       refine pwp_plain rfl fun K39 hK39 => ?_
       refine p_step rfl (e_move (v := _) rfl) trivial ?_
       refine p_step rfl (e_loadHA (n := 7) rfl (hset_self _ _ _) (by kernel_rfl) (by kernel_rfl) (by kernel_rfl) (by exact Nat.zero_lt_one) (by decide) rfl) trivial ?_
       refine p_new rfl (e_bslice (rows := [Part.enc ((aGet x.part (partsM ps)).getD Part0)]) (zs := [.str ByteArray.empty, .int 0, .int 0, .int 0, .int 0, .int 0, .int 0]) (sz := 7) (by kernel_rfl) (by kernel_rfl) rfl (by kernel_rfl) (by decide) rfl rfl (by exact ⟨by decide, rfl, rfl, trivial⟩) rfl) trivial ?_
       refine p_appM rfl rfl rfl (hihj28_0.keep fun _ => (hset_ne (key_ne rfl)).trans ((hset_ne (key_ne rfl)).trans ((hset_ne (key_ne rfl)).trans ((hset_ne (key_ne rfl)).trans ((hset_ne (key_ne rfl)).trans (rfl)))))) (src_ref (hset_self _ _ _) rfl) (by kernel_rfl) (by simp only [List.length_append, List.length_map, List.length_nil, List.length_cons]; omega) fun v40 h41 c42 hs43 hf44 hcm45 => ?_
       have ho46 := MapAt.keep (MapAt.keep hihj28_1 ((hset_ne (key_ne rfl)).trans ((hset_ne (gen_ne (by first | exact hcn | (simp [cset]; done) | (simp [cset]; exact hcn)))).trans ((hset_ne (gen_ne (by first | exact hcn | (simp [cset]; done) | (simp [cset]; exact hcn)))).trans ((hset_ne (key_ne rfl)).trans ((hset_ne (key_ne rfl)).trans (rfl))))))) (hf44 (12, _) (key_ne rfl) (fun _ _ => key_ne rfl))
       have ho47 := (hf44 (11, _) (key_ne rfl) (fun _ _ => key_ne rfl)).trans ((hset_ne (key_ne rfl)).trans ((hset_ne (key_ne rfl)).trans ((hset_ne (key_ne rfl)).trans (hset_self _ _ _))))
       have ho48 := (hf44 (12, _) (key_ne rfl) (fun _ _ => key_ne rfl)).trans ((hset_ne (key_ne rfl)).trans (hset_self _ _ _))
       have ho49 := (hf44 (47, _) (key_ne rfl) (fun _ _ => key_ne rfl)).trans (hset_self _ _ _)
       replace hcn : 1 ≤ c42 12 := Nat.le_trans (by first | exact hcn | (simp [cset]; done) | (simp [cset]; exact hcn)) (hcm45 12)
       refine p_step rfl (e_assign (v := _) rfl) trivial ?_
       refine p_end (hK39 _ ?_); clear hK39 K39
       refine block_norm ?_
       refine seq_norm (hK32 _ ?_); clear hK32 K32
       refine pwp_plain rfl fun K50 hK50 => ?_
       refine p_step rfl (e_add rfl rfl (by omega)) trivial ?_
       refine p_step rfl (e_move (v := .sc _) rfl) trivial ?_
       refine p_end (hK50 _ ?_); clear hK50 K50
       rw [if_pos (by assumption)] at hinv
       exact loop_again ((k + 1, acc ++ [(aGet x.part (partsM ps)).getD Part0], v40)) (by show _ < _; simp only; omega) ⟨rfl, rfl, rfl, trivial⟩ ⟨rfl, rfl, trivial⟩ (by exact ⟨by show _ + 1 ≤ _; omega, by exact hinv, by show (acc ++ [_]).length ≤ k + 1; simp only [List.length_append, List.length_cons, List.length_nil]; omega, by exact hcn, (SliceAt.to hs43 (by simp)), ho46⟩)
     ·have hb31R := hb31; try simp only [z1, z2, z3, z4, z5, z6, ne_eq, z7, z8, z9, z10, z11, z12] at hb31
      obtain rfl : k = ws.length := by omega
      rw [List.drop_length] at hinv; simp only [goF] at hinv
      refine pwp_exit ?_
      refine exit_seq ?_
      clear hK30 K30
      refine exit_loop ?_
      refine exit_here ?_
      refine seq_norm (hK23 _ ?_); clear hK23 K23
      refine pwp_seq_plain rfl fun K51 hK51 => ?_
      refine p_step rfl (e_move (v := _) rfl) trivial ?_
      refine p_step rfl (e_assign (v := _) rfl) trivial ?_
      refine p_step rfl (e_assign (v := .sc _) rfl) trivial ?_
      refine p_end (hK51 _ ?_); clear hK51 K51
      refine pwp_ret ?_
      refine end2 (v := _) (w := .sc _) rfl rfl ?_
      first
        | exact wr_out0 (wr_1 (by omega))
        | exact wr_out0 (wr_2 (by omega) (by assumption))
        | exact wr_out0 (wr_3 (by omega) (by assumption) (by assumption))
        | exact wr_out0 (wr_4 (by omega) (by assumption) (by assumption) (by rw [hinv, if_neg (by rw [Bool.not_eq_true]; assumption)]))
        | exact wr_out (wr_4 (by omega) (by assumption) (by assumption) hinv) hihj28_0

end Go.Proofs.Ytigdmkhdmbbfiaa
