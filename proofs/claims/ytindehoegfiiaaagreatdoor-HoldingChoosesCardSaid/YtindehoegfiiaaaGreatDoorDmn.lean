/- Demands. No conditions. -/
import Derived.Test.YtindehoegfiiaaaGreatDoorDmd
set_option linter.unusedSimpArgs false
set_option linter.unusedVariables false
set_option maxRecDepth 100000
namespace Go.Proofs.YtindehoegfiiaaaGreatDoor
open Go Go.Pv
def dmX (g : Grid) (r : Rule) (l : List Tie) : List Demand := if allE g r l = 0 then (dmL g r g.along.length).map (dmd g r l) else []
section
variable {g : Grid} {r : Rule} {l : List Tie}
theorem dmX_e (h : allE g r l ≠ 0) : dmX g r l = [] := if_neg h
theorem dmX_0 (h : allE g r l = 0) : dmX g r l = (dmL g r g.along.length).map (dmd g r l) := if_pos h
theorem dmX_len : (dmX g r l).length ≤ 1860 := by
 by_cases h : allE g r l = 0
 · rw [dmX_0 h, List.length_map]; exact dm_len (allE_inv h).1
 · rw [dmX_e h]; exact Nat.zero_le _
theorem pure_lQ (ds : List Demand) : Pure (.lit false 3 ((ds.map dF).map encQ)) := .lit _ _ _ fun row hr => pure_map pureQ row hr
theorem out_e0 {h : Heap} : Out h .nil (.lit false 3 ((([] : List Demand).map dF).map encQ)) := .nil 3
theorem yieldDem (hl : l.length ≤ 100000) (hgz : gridE g = 0) (hrz : ruleE r = 0) (htz : tiesE g l = 0) : YieldOK 80 [.ptr (5, 0) 1 0 0, .ptr (9, 0) 1 0 0] WD (DkH g r l) (fun _ _ => False) g r :=
 fun p i x hp cn a b c d hkn hP hi hx hq hG hX hR hI => by
   obtain ⟨q, hq⟩ := hq
   obtain ⟨v, rows, hO, hS, hN, hvc⟩ := hP.out
   have h1 := dm_len (r := r) hgz
   have h2 := congrArg List.length hq
   simp only [List.length_append] at h2
   exact yieldD g r l hl hgz hrz htz p (by omega) i x hp cn a b c d hkn hP v rows hO hS hN hvc (by have := (grd_shape hgz).2; omega) (hts_b hgz hx) hG hX hR hI
end

theorem fr24 : (inFrame Tryz.f24.ntmps (Tryz.f24.body.getD .skip) && Tryz.f24.results.toList.all (resScope Tryz.f24.ntmps)) = true := by kernel_rfl
theorem DemandsC (g : Grid) (r : Rule) (l : List Tie) (ha : g.along.length ≤ 100) (hb : g.levels.length ≤ 100) (hl : l.length ≤ 100000) : PCalls Tryz.prog 24 [.agg g.enc, .agg r.enc, .lit true 2 (l.map Tie.enc)] (.tup [.lit false 3 (((dmX g r l).map dF).map encQ), .int (allE g r l)]) := by
 refine PCalls.of_code Tryz.func24 rfl rfl (by kernel_rfl) mixed fr24 (by show _ ≤ 22; simp) (pure_2 (pure_lQ _) (.sc _)) ?_
 refine pwp_seq_plain rfl fun K1 hK1 => ?_
 refine p_new rfl (e_box (n := 3) rfl rfl) ⟨rfl, by decide⟩ ?_
 refine p_new rfl (e_box (n := 5) rfl rfl) ⟨rfl, by decide⟩ ?_
 refine p_new rfl (e_box1 rfl rfl) ⟨rfl, by decide⟩ ?_
 refine p_e rfl (e_assign (v := .nil) rfl) ?_
 refine p_aS rfl ?_
 refine p_end (hK1 _ ?_); clear hK1 K1
 refine pwp_seq_seq ?_
 refine pwp_seq_plain rfl fun K2 hK2 => ?_
 refine p_e rfl (e_loadHA (cs := Grid.enc (g)) (n := 3) rfl ((hset_ne (key_ne rfl)).trans ((hset_ne (key_ne rfl)).trans (hset_self _ _ _))) (by kernel_rfl) (by kernel_rfl) (by kernel_rfl) (by exact Nat.zero_lt_one) (by decide) rfl) ?_
 refine p_e rfl (e_loadHA (cs := Rule.enc (r)) (n := 5) rfl ((hset_ne (key_ne rfl)).trans (hset_self _ _ _)) (by kernel_rfl) (by kernel_rfl) (by kernel_rfl) (by exact Nat.zero_lt_one) (by decide) rfl) ?_
 refine p_e rfl (e_lH (v := .lit _ _ _) rfl (hset_self _ _ _) rfl) ?_
 refine p_call rfl (.cons (inn_agg (Grid.pure _)) (.cons (inn_agg (Rule.pure _)) (.cons inn_lit .nil))) (checkAllC g r l (by omega) (by omega) (by omega)) ?_
 refine p_aS rfl ?_
 refine p_end (hK2 _ ?_); clear hK2 K2
 refine pwp_seq_seq ?_
 refine pwp_seq_plain rfl fun K3 hK3 => ?_
 refine p_mS rfl ?_
 refine p_e rfl (e_ne rfl rfl) ?_
 refine p_end (hK3 _ ?_); clear hK3 K3
 refine pwp_seq_cond rfl fun K4 hK4 => ⟨fun hb5 => ?_, fun hb5 => ?_⟩
 ·have hb5R := hb5; try simp only [zz] at hb5
  refine pwp_seq_plain rfl fun K6 hK6 => ?_
  refine p_mS rfl ?_
  refine p_e rfl (e_assign (v := .nil) rfl) ?_
  refine p_aS rfl ?_
  refine p_end (hK6 _ ?_); clear hK6 K6
  refine pwp_ret ?_
  refine ret_seq ?_
  refine end2 (v := .nil) (w := .sc _) rfl rfl ?_
  first
    | exact out_2 (by rw [dmX_e (by assumption)]; exact out_e0) (out_i rfl)
    | exact out_2 (by rw [dmX_0 haz]; exact out_nest hS hN) (out_i haz.symm)
 ·have hb5R := hb5; try simp only [zz] at hb5
  refine pwp_skip ?_
  refine seq_norm (hK4 _ ?_); clear hK4 K4
  have haz : allE g r l = 0 := by omega
  obtain ⟨hgz, hrz, htz⟩ := allE_inv haz
  refine pwp_seq_plain rfl fun K7 hK7 => ?_
  refine p_new rfl (e_alloc (cs := [.nil]) (n := 1) (by kernel_rfl) rfl (by decide)) (ob_alloc (by decide)) ?_
  refine p_end (hK7 _ ?_); clear hK7 K7
  refine pwp_seq_plainK rfl fun hkn K8 hK8 => ?_
  refine p_e rfl (e_loadHA (cs := Grid.enc (g)) (n := 3) rfl ((hset_ne (key_ne rfl)).trans ((hset_ne (key_ne rfl)).trans ((hset_ne (key_ne rfl)).trans (hset_self _ _ _)))) (by kernel_rfl) (by kernel_rfl) (by kernel_rfl) (by exact Nat.zero_lt_one) (by decide) rfl) ?_
  refine p_e rfl (e_loadHA (cs := Rule.enc (r)) (n := 5) rfl ((hset_ne (key_ne rfl)).trans ((hset_ne (key_ne rfl)).trans (hset_self _ _ _))) (by kernel_rfl) (by kernel_rfl) (by kernel_rfl) (by exact Nat.zero_lt_one) (by decide) rfl) ?_
  refine p_e rfl (e_mkf rfl) ?_
  refine p_hcall rfl (demandsH 80 _ WD (DkH g r l) (fun _ _ => False) g r _ _ hgz hrz DkH.stays (fun k q => by rcases q with rfl | q; decide; exact .inr (.inr (.inr q))) hkn ⟨((hset_ne (key_ne rfl)).trans (hset_self _ _ _)), .nil, [], (hset_self _ _ _), .nil, .nil, rfl⟩ (yieldDem (by omega) hgz hrz htz)) fun v9 h10 c11 hR12 => ?_
  obtain ⟨hkp, hcase⟩ := hR12
  obtain ⟨v, rows, hO, hS, hN, _⟩ := (hcase.elim id (fun q => by obtain ⟨_, _, _, q⟩ := q; exact q.elim)).out
  refine p_end (hK8 _ ?_); clear hK8 K8
  refine pwp_seq_plain rfl fun K13 hK13 => ?_
  refine p_e rfl (e_lH (v := v) rfl hO rfl) ?_
  refine p_e rfl (e_assign (v := _) rfl) ?_
  refine p_aS rfl ?_
  refine p_end (hK13 _ ?_); clear hK13 K13
  refine pwp_ret ?_
  refine end2 (v := _) (w := .sc _) rfl rfl ?_
  first
    | exact out_2 (by rw [dmX_e (by assumption)]; exact out_e0) (out_i rfl)
    | exact out_2 (by rw [dmX_0 haz]; exact out_nest hS hN) (out_i haz.symm)

end Go.Proofs.YtindehoegfiiaaaGreatDoor
