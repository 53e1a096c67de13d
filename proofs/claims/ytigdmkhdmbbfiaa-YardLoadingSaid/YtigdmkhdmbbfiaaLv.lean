/- The law of loading. No conditions. -/
import Derived.Test.YtigdmkhdmbbfiaaLl
import Derived.Test.YtigdmkhdmbbfiaaLk2
set_option linter.unusedSimpArgs false
set_option linter.unusedVariables false
set_option maxRecDepth 100000
namespace Go.Proofs.Ytigdmkhdmbbfiaa
open Go Go.Pv
theorem least_ex {its : List Item} {x : Lorry} (h : its.length ≤ 12) : ∃ n : Nat, n ≤ 1000 ∧ fitsV x.mass (n : Int) its [] = true ∧ ∀ j : Nat, j < n → fitsV x.mass (j : Int) its [] = false := by
 obtain ⟨n, h1, h2, h3⟩ := fits_least (P := fun n : Nat => fitsV x.mass (n : Int) its []) (N := its.length) (fits_all (by rw [List.length_nil]; omega))
 exact ⟨n, by omega, h2, h3⟩
theorem loadE_1 {its : List Item} {x : Lorry} (h : ¬ itemsE its x = 0) : loadE its x = itemsE its x := if_pos h
theorem loadE_2 {its : List Item} {x : Lorry} (h : itemsE its x = 0) (h2 : 12 < its.length) : loadE its x = 8 := by rw [loadE, if_neg (by simpa using h), if_pos h2]
theorem loadE_3 {its : List Item} {x : Lorry} (h : itemsE its x = 0) (h2 : ¬ 12 < its.length) (h3 : bigB its x = true) : loadE its x = 18 := by rw [loadE, if_neg (by simpa using h), if_neg h2, if_pos h3]
theorem loadE_inv {its : List Item} {x : Lorry} (h : loadE its x = 0) : itemsE its x = 0 ∧ its.length ≤ 12 ∧ bigB its x = false := by
 by_cases h1 : itemsE its x = 0
 · by_cases h2 : 12 < its.length
   · rw [loadE_2 h1 h2] at h; cases h
   · cases h3 : bigB its x with
     | false => exact ⟨h1, by omega, rfl⟩
     | true => rw [loadE_3 h1 h2 h3] at h; cases h
 · rw [loadE_1 h1] at h; exact absurd h h1
theorem tooBigF (its : List Item) (x : Lorry) (hl : its.length ≤ 1000000) (hb : bigB its x = false) : PCalls Try.prog 55 [.lit true 3 (its.map Item.enc), .agg x.enc] (.bool false) := by
 have h := tooBigC its x hl
 rwa [hb] at h
section
variable {P : Program} {ρ : Operand → PV} {h : Heap} {key : Key} {x y : Operand} {t t' : TypeId} {k : IntKind} {a b : Int}
theorem e_eqT (hx : ρ x = .sc (.int k a)) (hy : ρ y = .sc (.int k b)) (hb : a = b) : eff P ρ h key (.binOp .eql t x y t') = ⟨True, .bool true, [], [], false⟩ := by rw [e_eq hx hy, decide_eq_true hb]
theorem e_eqF (hx : ρ x = .sc (.int k a)) (hy : ρ y = .sc (.int k b)) (hb : ¬ a = b) : eff P ρ h key (.binOp .eql t x y t') = ⟨True, .bool false, [], [], false⟩ := by rw [e_eq hx hy, decide_eq_false hb]
theorem e_neT (hx : ρ x = .sc (.int k a)) (hy : ρ y = .sc (.int k b)) (hb : a ≠ b) : eff P ρ h key (.binOp .neq t x y t') = ⟨True, .bool true, [], [], false⟩ := by rw [e_ne hx hy, decide_eq_true hb]
theorem e_neF (hx : ρ x = .sc (.int k a)) (hy : ρ y = .sc (.int k b)) (hb : ¬ a ≠ b) : eff P ρ h key (.binOp .neq t x y t') = ⟨True, .bool false, [], [], false⟩ := by rw [e_ne hx hy, decide_eq_false hb]
theorem e_geT (hx : ρ x = .sc (.int k a)) (hy : ρ y = .sc (.int k b)) (hb : b ≤ a) : eff P ρ h key (.binOp .geq t x y t') = ⟨True, .bool true, [], [], false⟩ := by rw [e_ge hx hy, decide_eq_true hb]
end
theorem loads_nil {x : Lorry} (h : itemsE [] x = 0) : loadsE [] x [] = 0 := (le_5 h (Nat.le_refl _) (q := []) rfl List.not_mem_nil).symm
theorem lor_nil {x : Lorry} (h : itemsE [] x = 0) (hm : 1 ≤ x.mass) : lorW [] x = 0 := by
 have h2 : lorN [] x = 0 := by
   rw [lorN, sumM]
   have e : (0 + x.mass - 1) / x.mass = 0 := Int.ediv_eq_zero_of_lt (by omega) (by omega)
   rw [e]; rfl
 rw [lorW, if_pos h, h2]
theorem fr12 : (inFrame Try.f12.ntmps (Try.f12.body.getD .skip) && Try.f12.results.toList.all (resScope Try.f12.ntmps)) = true := by kernel_rfl
theorem hLoading (its : List Item) (x : Lorry) : PCalls Try.prog 12 [.lit true 3 (its.map Item.enc), .agg x.enc] (.bool true) := by
 refine PCalls.of_code Try.func12 rfl rfl (by kernel_rfl) mixed fr12 (by show _ ≤ 98; simp) (.sc _) ?_
 refine pwp_seq_plain rfl fun K1 hK1 => ?_
 refine p_new rfl (e_box (n := 2) rfl rfl) ⟨rfl, by decide⟩ ?_
 refine p_aS rfl ?_
 refine p_end (hK1 _ ?_); clear hK1 K1
 refine pwp_seq_seq ?_
 refine pwp_seq_plain rfl fun K2 hK2 => ?_
 refine p_call rfl .nil (awake) ?_
 refine p_e rfl (e_not rfl) ?_
 refine p_end (hK2 _ ?_); clear hK2 K2
 refine pwp_seq_cond (t := false) rfl fun K3 hK3 => ⟨nofun, fun _ => ?_⟩
 refine pwp_skip ?_
 refine seq_norm (hK3 _ ?_); clear hK3 K3
 refine pwp_seq_seq ?_
 refine pwp_seq_gops rfl fun K4 hK4 => ?_
 refine g_begin ?_
 refine g_e rfl (e_move (v := .lit _ _ _) rfl) ?_
 refine g_call rfl rfl rfl rfl (.cons inn_lit (.cons inn_nil .nil)) (light its [] (by simp)) ?_
 refine g_e rfl (e_not rfl) ?_
 refine g_mS rfl rfl ?_
 refine g_cases (fun hb5 => ?_) (fun hb5 => ?_)
 ·have hb5R := hb5; try simp only [zz] at hb5
  iterate 8 refine g_skip rfl rfl rfl ?_
  refine g_pT rfl rfl rfl ?_
  refine g_end (ds := [16, 17, 18, 19, 20, 21, 22, 23]) rfl rfl (hK4 _ ?_); clear hK4 K4
  refine pwp_seq_cond (t := true) rfl fun K6 hK6 => ⟨fun _ => ?_, nofun⟩
  refine pwp_seq_plain rfl fun K7 hK7 => ?_
  refine p_aS rfl ?_
  refine p_end (hK7 _ ?_); clear hK7 K7
  refine pwp_ret ?_
  refine ret_seq ?_
  refine end1 (v := .sc _) rfl ?_
  first
    | exact out_b rfl
    | exact out_b (by rw [loadE_1 (by assumption)]; simp)
    | exact out_b (by rw [loadE_2 (by omega) (by simp only [List.length_map] at *; omega)]; rfl)
    | exact out_b (by rw [loadE_3 (by omega) (by simp only [List.length_map] at *; omega) (by assumption)]; rfl)
    | (exfalso; rw [loadE_1 (by assumption)] at *; simp_all; done)
    | (exfalso; have := loadE_2 (its := its) (x := x) (by omega) (by simp only [List.length_map] at *; omega); omega)
    | (exfalso; have := loadE_3 (its := its) (x := x) (by omega) (by simp only [List.length_map] at *; omega) (by assumption); omega)
 ·have hb5R := hb5; try simp only [zz] at hb5
  refine g_e rfl (e_move (v := .lit _ _ _) rfl) ?_
  refine g_e rfl (e_len rfl (by kernel_rfl)) ?_
  refine g_e rfl (e_gt rfl rfl) ?_
  refine g_mS rfl rfl ?_
  refine g_cases (fun hb8 => ?_) (fun hb8 => ?_)
  ·have hb8R := hb8; try simp only [zz] at hb8
   refine g_e rfl (e_move (v := .lit _ _ _) rfl) ?_
   refine g_e rfl (e_len rfl (by kernel_rfl)) ?_
   refine g_e rfl (e_le rfl rfl) ?_
   refine g_pT rfl rfl rfl ?_
   refine g_pF rfl rfl rfl ?_
   refine g_end (ds := [16, 17, 18, 19, 20, 21, 22, 23]) rfl rfl (hK4 _ ?_); clear hK4 K4
   refine pwp_seq_cond rfl fun K9 hK9 => ⟨fun hb10 => ?_, fun hb10 => ?_⟩
   ·have hb10R := hb10; try simp only [zz] at hb10
    refine pwp_seq_plain rfl fun K11 hK11 => ?_
    refine p_aS rfl ?_
    refine p_end (hK11 _ ?_); clear hK11 K11
    refine pwp_ret ?_
    refine ret_seq ?_
    refine end1 (v := .sc _) rfl ?_
    first
      | exact out_b rfl
      | exact out_b (by rw [loadE_1 (by assumption)]; simp)
      | exact out_b (by rw [loadE_2 (by omega) (by simp only [List.length_map] at *; omega)]; rfl)
      | exact out_b (by rw [loadE_3 (by omega) (by simp only [List.length_map] at *; omega) (by assumption)]; rfl)
      | (exfalso; rw [loadE_1 (by assumption)] at *; simp_all; done)
      | (exfalso; have := loadE_2 (its := its) (x := x) (by omega) (by simp only [List.length_map] at *; omega); omega)
      | (exfalso; have := loadE_3 (its := its) (x := x) (by omega) (by simp only [List.length_map] at *; omega) (by assumption); omega)
   ·have hb10R := hb10; try simp only [zz] at hb10
    refine pwp_skip ?_
    refine seq_norm (hK9 _ ?_); clear hK9 K9
    have hlt : lightB its [] = true := by first | assumption | simp_all
    have hl := (lightB_iff hlt).1; have hs := (lightB_iff hlt).2.2.1
    have h6 : its.length ≤ 6 ∨ 12 < its.length := by simp only [List.length_map] at *; omega
    refine pwp_seq_plain rfl fun K12 hK12 => ?_
    refine p_e rfl (e_move (v := .lit _ _ _) rfl) ?_
    refine p_e rfl (e_loadHA (cs := Lorry.enc (x)) (n := 2) rfl (hset_self _ _ _) (by kernel_rfl) (by kernel_rfl) (by kernel_rfl) (by exact Nat.zero_lt_one) (by decide) rfl) ?_
    refine p_hcall rfl (loadH its x hl hs h6 _ _) fun v_ h_ c_ hR_ => ?_
    obtain ⟨hOx, hRc⟩ := hR_
    have hbx2 := (hOx.get (k := (3, 0)) (by exact Nat.zero_lt_one)).trans (hset_self _ _ _)
    rcases hRc with ⟨hA, rfl⟩ | ⟨hLE, hE, rfl⟩ | ⟨hLE, hne, hl6, gO, vs, ls, rfl, hLd, hGd⟩
    ·skip
     refine p_e rfl (e_move (v := .tup _) rfl) ?_
     refine p_e rfl (e_ext (v := .nil) rfl (by simp) rfl) ?_
     refine p_e rfl (e_ext (v := .sc _) rfl (by simp) rfl) ?_
     refine p_e rfl (e_assign (v := .nil) rfl) ?_
     refine p_aS rfl ?_
     refine p_end (hK12 _ ?_); clear hK12 K12
     refine pwp_seq_plain rfl fun K13 hK13 => ?_
     refine p_e rfl (e_move (v := .lit _ _ _) rfl) ?_
     refine p_e rfl (e_loadHA (cs := Lorry.enc (x)) (n := 2) rfl hbx2 (by kernel_rfl) (by kernel_rfl) (by kernel_rfl) (by exact Nat.zero_lt_one) (by decide) rfl) ?_
     refine p_call rfl (.cons inn_lit (.cons (inn_agg (Lorry.pure _)) .nil)) (refItems its x (by omega) hs) ?_
     refine p_aS rfl ?_
     refine p_end (hK13 _ ?_); clear hK13 K13
     refine pwp_seq_seq ?_
     refine pwp_seq_gops rfl fun K14 hK14 => ?_
     refine g_begin ?_
     refine g_mS rfl rfl ?_
     refine g_e rfl (e_eq rfl rfl) ?_
     refine g_mS rfl rfl ?_
     refine g_cases (fun hb15 => ?_) (fun hb15 => ?_)
     ·have hb15R := hb15; try simp only [zz] at hb15
      refine g_e rfl (e_move (v := .lit _ _ _) rfl) ?_
      refine g_e rfl (e_len rfl (by kernel_rfl)) ?_
      refine g_e rfl (e_gt rfl rfl) ?_
      refine g_pT rfl rfl rfl ?_
      refine g_end (ds := [37, 38, 39]) rfl rfl (hK14 _ ?_); clear hK14 K14
      refine pwp_seq_cond rfl fun K16 hK16 => ⟨fun hb17 => ?_, fun hb17 => ?_⟩
      ·have hb17R := hb17; try simp only [zz] at hb17
       refine pwp_plain rfl fun K18 hK18 => ?_
       refine p_aS rfl ?_
       refine p_end (hK18 _ ?_); clear hK18 K18
       refine seq_norm (hK16 _ ?_); clear hK16 K16
       refine pwp_seq_seq ?_
       refine pwp_seq_gops rfl fun K19 hK19 => ?_
       refine s_begin ?_
       refine s_e rfl (e_move (v := .sc _) rfl) ?_
       refine s_e rfl (e_eqF rfl rfl (by decide)) ?_
       refine s_e rfl (e_move (v := .sc _) rfl) ?_
       refine s_skip rfl rfl rfl ?_
       refine s_skip rfl rfl rfl ?_
       refine s_nocall (args := [.dead, .dead]) [] (by intro k hk; simp [keysOf, Go.Pv.keyOf] at hk) rfl rfl rfl ?_
       refine s_e rfl (e_pickF (v := .sc _) rfl rfl) ?_
       refine s_end (ds := [44, 45, 46]) (by kernel_rfl) (by kernel_rfl) (hK19 _ ?_); clear hK19 K19
       refine pwp_seq_cond (t := false) rfl fun K20 hK20 => ⟨nofun, fun _ => ?_⟩
       refine pwp_skip ?_
       refine seq_norm (hK20 _ ?_); clear hK20 K20
       refine pwp_seq_seq ?_
       refine pwp_seq_plain rfl fun K21 hK21 => ?_
       refine p_mS rfl ?_
       refine p_e rfl (e_neT rfl rfl (by decide)) ?_
       refine p_end (hK21 _ ?_); clear hK21 K21
       refine pwp_seq_cond (t := true) rfl fun K22 hK22 => ⟨fun _ => ?_, nofun⟩
       refine pwp_seq_gops rfl fun K23 hK23 => ?_
       refine g_begin ?_
       refine g_mS rfl rfl ?_
       refine g_mS rfl rfl ?_
       refine g_e rfl (e_eq rfl rfl) ?_
       refine g_mS rfl rfl ?_
       refine g_cases (fun hb24 => ?_) (fun hb24 => ?_)
       ·have hb24R := hb24; try simp only [zz] at hb24
        refine g_e rfl (e_move (v := .nil) rfl) ?_
        refine g_e rfl (e_lenN rfl (by kernel_rfl)) ?_
        refine g_e rfl (e_eq rfl rfl) ?_
        refine g_pT rfl rfl rfl ?_
        refine g_aS rfl rfl ?_
        refine g_end (ds := [54, 55, 56]) rfl rfl (hK23 _ ?_); clear hK23 K23
        refine pwp_ret ?_
        refine ret_seq ?_
        refine end1 (v := .sc _) rfl ?_
        first
          | exact out_b rfl
          | exact out_b (by rw [loadE_1 (by assumption)]; simp)
          | exact out_b (by rw [loadE_2 (by omega) (by simp only [List.length_map] at *; omega)]; rfl)
          | exact out_b (by rw [loadE_3 (by omega) (by simp only [List.length_map] at *; omega) (by assumption)]; rfl)
          | (exfalso; rw [loadE_1 (by assumption)] at *; simp_all; done)
          | (exfalso; have := loadE_2 (its := its) (x := x) (by omega) (by simp only [List.length_map] at *; omega); omega)
          | (exfalso; have := loadE_3 (its := its) (x := x) (by omega) (by simp only [List.length_map] at *; omega) (by assumption); omega)
       ·have hb24R := hb24; try simp only [zz] at hb24
        iterate 3 refine g_skip rfl rfl rfl ?_
        refine g_pF rfl rfl rfl ?_
        refine g_aS rfl rfl ?_
        refine g_end (ds := [54, 55, 56]) rfl rfl (hK23 _ ?_); clear hK23 K23
        refine pwp_ret ?_
        refine ret_seq ?_
        refine end1 (v := .sc _) rfl ?_
        first
          | exact out_b rfl
          | exact out_b (by rw [loadE_1 (by assumption)]; simp)
          | exact out_b (by rw [loadE_2 (by omega) (by simp only [List.length_map] at *; omega)]; rfl)
          | exact out_b (by rw [loadE_3 (by omega) (by simp only [List.length_map] at *; omega) (by assumption)]; rfl)
          | (exfalso; rw [loadE_1 (by assumption)] at *; simp_all; done)
          | (exfalso; have := loadE_2 (its := its) (x := x) (by omega) (by simp only [List.length_map] at *; omega); omega)
          | (exfalso; have := loadE_3 (its := its) (x := x) (by omega) (by simp only [List.length_map] at *; omega) (by assumption); omega)
      ·have hb17R := hb17; try simp only [zz] at hb17
       refine pwp_skip ?_
       refine seq_norm (hK16 _ ?_); clear hK16 K16
       refine pwp_seq_seq ?_
       refine pwp_seq_gops rfl fun K25 hK25 => ?_
       refine s_begin ?_
       refine s_e rfl (e_move (v := .sc _) rfl) ?_
       refine s_e rfl (e_eq rfl rfl) ?_
       refine s_e rfl (e_move (v := .sc _) rfl) ?_
       refine s_cases (fun hb26 => ?_) (fun hb26 => ?_)
       ·have hb26R := hb26; try simp only [zz] at hb26
        refine s_e rfl (e_move (v := .lit _ _ _) rfl) ?_
        refine s_step [3] (by simp) rfl rfl rfl rfl (e_loadHA (cs := Lorry.enc (x)) (n := 2) rfl hbx2 (by kernel_rfl) (by kernel_rfl) (by kernel_rfl) (by exact Nat.zero_lt_one) (by decide) rfl) trivial ?_
        refine s_call (args := [.lit _ _ _, .agg _]) [] (by intro k hk; simp [keysOf, Go.Pv.keyOf, Lorry.enc] at hk; try (first | (subst hk; simp; done) | (rcases hk with rfl | rfl <;> simp; done))) rfl rfl rfl rfl (.cons inn_lit (.cons (inn_agg (Lorry.pure _)) .nil)) (tooBigC its x (by omega)) ?_
        refine s_e rfl (e_pickT (v := .sc _) rfl rfl) ?_
        refine s_end (ds := [44, 45, 46]) (by kernel_rfl) (by kernel_rfl) (hK25 _ ?_); clear hK25 K25
        refine pwp_seq_cond rfl fun K27 hK27 => ⟨fun hb28 => ?_, fun hb28 => ?_⟩
        ·have hb28R := hb28; try simp only [zz] at hb28
         refine pwp_plain rfl fun K29 hK29 => ?_
         refine p_aS rfl ?_
         refine p_end (hK29 _ ?_); clear hK29 K29
         refine seq_norm (hK27 _ ?_); clear hK27 K27
         refine pwp_seq_seq ?_
         refine pwp_seq_plain rfl fun K30 hK30 => ?_
         refine p_mS rfl ?_
         refine p_e rfl (e_neT rfl rfl (by decide)) ?_
         refine p_end (hK30 _ ?_); clear hK30 K30
         refine pwp_seq_cond (t := true) rfl fun K31 hK31 => ⟨fun _ => ?_, nofun⟩
         refine pwp_seq_gops rfl fun K32 hK32 => ?_
         refine g_begin ?_
         refine g_mS rfl rfl ?_
         refine g_mS rfl rfl ?_
         refine g_e rfl (e_eq rfl rfl) ?_
         refine g_mS rfl rfl ?_
         refine g_cases (fun hb33 => ?_) (fun hb33 => ?_)
         ·have hb33R := hb33; try simp only [zz] at hb33
          refine g_e rfl (e_move (v := .nil) rfl) ?_
          refine g_e rfl (e_lenN rfl (by kernel_rfl)) ?_
          refine g_e rfl (e_eq rfl rfl) ?_
          refine g_pT rfl rfl rfl ?_
          refine g_aS rfl rfl ?_
          refine g_end (ds := [54, 55, 56]) rfl rfl (hK32 _ ?_); clear hK32 K32
          refine pwp_ret ?_
          refine ret_seq ?_
          refine end1 (v := .sc _) rfl ?_
          first
            | exact out_b rfl
            | exact out_b (by rw [loadE_1 (by assumption)]; simp)
            | exact out_b (by rw [loadE_2 (by omega) (by simp only [List.length_map] at *; omega)]; rfl)
            | exact out_b (by rw [loadE_3 (by omega) (by simp only [List.length_map] at *; omega) (by assumption)]; rfl)
            | (exfalso; rw [loadE_1 (by assumption)] at *; simp_all; done)
            | (exfalso; have := loadE_2 (its := its) (x := x) (by omega) (by simp only [List.length_map] at *; omega); omega)
            | (exfalso; have := loadE_3 (its := its) (x := x) (by omega) (by simp only [List.length_map] at *; omega) (by assumption); omega)
         ·have hb33R := hb33; try simp only [zz] at hb33
          iterate 3 refine g_skip rfl rfl rfl ?_
          refine g_pF rfl rfl rfl ?_
          refine g_aS rfl rfl ?_
          refine g_end (ds := [54, 55, 56]) rfl rfl (hK32 _ ?_); clear hK32 K32
          refine pwp_ret ?_
          refine ret_seq ?_
          refine end1 (v := .sc _) rfl ?_
          first
            | exact out_b rfl
            | exact out_b (by rw [loadE_1 (by assumption)]; simp)
            | exact out_b (by rw [loadE_2 (by omega) (by simp only [List.length_map] at *; omega)]; rfl)
            | exact out_b (by rw [loadE_3 (by omega) (by simp only [List.length_map] at *; omega) (by assumption)]; rfl)
            | (exfalso; rw [loadE_1 (by assumption)] at *; simp_all; done)
            | (exfalso; have := loadE_2 (its := its) (x := x) (by omega) (by simp only [List.length_map] at *; omega); omega)
            | (exfalso; have := loadE_3 (its := its) (x := x) (by omega) (by simp only [List.length_map] at *; omega) (by assumption); omega)
        ·have hb28R := hb28; try simp only [zz] at hb28
         refine pwp_skip ?_
         refine seq_norm (hK27 _ ?_); clear hK27 K27
         refine pwp_seq_seq ?_
         refine pwp_seq_plain rfl fun K34 hK34 => ?_
         refine p_mS rfl ?_
         refine p_e rfl (e_ne rfl rfl) ?_
         refine p_end (hK34 _ ?_); clear hK34 K34
         refine pwp_seq_cond rfl fun K35 hK35 => ⟨fun hb36 => ?_, fun hb36 => ?_⟩
         ·have hb36R := hb36; try simp only [zz] at hb36
          refine pwp_seq_gops rfl fun K37 hK37 => ?_
          refine g_begin ?_
          refine g_mS rfl rfl ?_
          refine g_mS rfl rfl ?_
          refine g_e rfl (e_eq rfl rfl) ?_
          refine g_mS rfl rfl ?_
          refine g_cases (fun hb38 => ?_) (fun hb38 => ?_)
          ·have hb38R := hb38; try simp only [zz] at hb38
           refine g_e rfl (e_move (v := .nil) rfl) ?_
           refine g_e rfl (e_lenN rfl (by kernel_rfl)) ?_
           refine g_e rfl (e_eq rfl rfl) ?_
           refine g_pT rfl rfl rfl ?_
           refine g_aS rfl rfl ?_
           refine g_end (ds := [54, 55, 56]) rfl rfl (hK37 _ ?_); clear hK37 K37
           refine pwp_ret ?_
           refine ret_seq ?_
           refine end1 (v := .sc _) rfl ?_
           first
             | exact out_b rfl
             | exact out_b (by rw [loadE_1 (by assumption)]; simp)
             | exact out_b (by rw [loadE_2 (by omega) (by simp only [List.length_map] at *; omega)]; rfl)
             | exact out_b (by rw [loadE_3 (by omega) (by simp only [List.length_map] at *; omega) (by assumption)]; rfl)
             | (exfalso; rw [loadE_1 (by assumption)] at *; simp_all; done)
             | (exfalso; have := loadE_2 (its := its) (x := x) (by omega) (by simp only [List.length_map] at *; omega); omega)
             | (exfalso; have := loadE_3 (its := its) (x := x) (by omega) (by simp only [List.length_map] at *; omega) (by assumption); omega)
          ·have hb38R := hb38; try simp only [zz] at hb38
           iterate 3 refine g_skip rfl rfl rfl ?_
           refine g_pF rfl rfl rfl ?_
           refine g_aS rfl rfl ?_
           refine g_end (ds := [54, 55, 56]) rfl rfl (hK37 _ ?_); clear hK37 K37
           refine pwp_ret ?_
           refine ret_seq ?_
           refine end1 (v := .sc _) rfl ?_
           first
             | exact out_b rfl
             | exact out_b (by rw [loadE_1 (by assumption)]; simp)
             | exact out_b (by rw [loadE_2 (by omega) (by simp only [List.length_map] at *; omega)]; rfl)
             | exact out_b (by rw [loadE_3 (by omega) (by simp only [List.length_map] at *; omega) (by assumption)]; rfl)
             | (exfalso; rw [loadE_1 (by assumption)] at *; simp_all; done)
             | (exfalso; have := loadE_2 (its := its) (x := x) (by omega) (by simp only [List.length_map] at *; omega); omega)
             | (exfalso; have := loadE_3 (its := its) (x := x) (by omega) (by simp only [List.length_map] at *; omega) (by assumption); omega)
         ·have hb36R := hb36; try simp only [zz] at hb36
          refine pwp_skip ?_
          refine seq_norm (hK35 _ ?_); clear hK35 K35
          first | (exfalso; omega) | exact absurd (loadE_0 (by omega) (by simp only [List.length_map] at *; omega) (by first | assumption | (simp only [Bool.not_eq_true] at *; assumption))) hA
       ·have hb26R := hb26; try simp only [zz] at hb26
        refine s_skip rfl rfl rfl ?_
        refine s_skip rfl rfl rfl ?_
        refine s_nocall (args := [.dead, .dead]) [] (by intro k hk; simp [keysOf, Go.Pv.keyOf] at hk) rfl rfl rfl ?_
        refine s_e rfl (e_pickF (v := .sc _) rfl rfl) ?_
        refine s_end (ds := [44, 45, 46]) (by kernel_rfl) (by kernel_rfl) (hK25 _ ?_); clear hK25 K25
        refine pwp_seq_cond (t := false) rfl fun K39 hK39 => ⟨nofun, fun _ => ?_⟩
        refine pwp_skip ?_
        refine seq_norm (hK39 _ ?_); clear hK39 K39
        refine pwp_seq_seq ?_
        refine pwp_seq_plain rfl fun K40 hK40 => ?_
        refine p_mS rfl ?_
        refine p_e rfl (e_ne rfl rfl) ?_
        refine p_end (hK40 _ ?_); clear hK40 K40
        refine pwp_seq_cond rfl fun K41 hK41 => ⟨fun hb42 => ?_, fun hb42 => ?_⟩
        ·have hb42R := hb42; try simp only [zz] at hb42
         refine pwp_seq_gops rfl fun K43 hK43 => ?_
         refine g_begin ?_
         refine g_mS rfl rfl ?_
         refine g_mS rfl rfl ?_
         refine g_e rfl (e_eq rfl rfl) ?_
         refine g_mS rfl rfl ?_
         refine g_cases (fun hb44 => ?_) (fun hb44 => ?_)
         ·have hb44R := hb44; try simp only [zz] at hb44
          refine g_e rfl (e_move (v := .nil) rfl) ?_
          refine g_e rfl (e_lenN rfl (by kernel_rfl)) ?_
          refine g_e rfl (e_eq rfl rfl) ?_
          refine g_pT rfl rfl rfl ?_
          refine g_aS rfl rfl ?_
          refine g_end (ds := [54, 55, 56]) rfl rfl (hK43 _ ?_); clear hK43 K43
          refine pwp_ret ?_
          refine ret_seq ?_
          refine end1 (v := .sc _) rfl ?_
          first
            | exact out_b rfl
            | exact out_b (by rw [loadE_1 (by assumption)]; simp)
            | exact out_b (by rw [loadE_2 (by omega) (by simp only [List.length_map] at *; omega)]; rfl)
            | exact out_b (by rw [loadE_3 (by omega) (by simp only [List.length_map] at *; omega) (by assumption)]; rfl)
            | (exfalso; rw [loadE_1 (by assumption)] at *; simp_all; done)
            | (exfalso; have := loadE_2 (its := its) (x := x) (by omega) (by simp only [List.length_map] at *; omega); omega)
            | (exfalso; have := loadE_3 (its := its) (x := x) (by omega) (by simp only [List.length_map] at *; omega) (by assumption); omega)
         ·have hb44R := hb44; try simp only [zz] at hb44
          iterate 3 refine g_skip rfl rfl rfl ?_
          refine g_pF rfl rfl rfl ?_
          refine g_aS rfl rfl ?_
          refine g_end (ds := [54, 55, 56]) rfl rfl (hK43 _ ?_); clear hK43 K43
          refine pwp_ret ?_
          refine ret_seq ?_
          refine end1 (v := .sc _) rfl ?_
          first
            | exact out_b rfl
            | exact out_b (by rw [loadE_1 (by assumption)]; simp)
            | exact out_b (by rw [loadE_2 (by omega) (by simp only [List.length_map] at *; omega)]; rfl)
            | exact out_b (by rw [loadE_3 (by omega) (by simp only [List.length_map] at *; omega) (by assumption)]; rfl)
            | (exfalso; rw [loadE_1 (by assumption)] at *; simp_all; done)
            | (exfalso; have := loadE_2 (its := its) (x := x) (by omega) (by simp only [List.length_map] at *; omega); omega)
            | (exfalso; have := loadE_3 (its := its) (x := x) (by omega) (by simp only [List.length_map] at *; omega) (by assumption); omega)
        ·have hb42R := hb42; try simp only [zz] at hb42
         refine pwp_skip ?_
         refine seq_norm (hK41 _ ?_); clear hK41 K41
         first | (exfalso; omega) | exact absurd (loadE_0 (by omega) (by simp only [List.length_map] at *; omega) (by first | assumption | (simp only [Bool.not_eq_true] at *; assumption))) hA
     ·have hb15R := hb15; try simp only [zz] at hb15
      iterate 3 refine g_skip rfl rfl rfl ?_
      refine g_pF rfl rfl rfl ?_
      refine g_end (ds := [37, 38, 39]) rfl rfl (hK14 _ ?_); clear hK14 K14
      refine pwp_seq_cond (t := false) rfl fun K45 hK45 => ⟨nofun, fun _ => ?_⟩
      refine pwp_skip ?_
      refine seq_norm (hK45 _ ?_); clear hK45 K45
      refine pwp_seq_seq ?_
      refine pwp_seq_gops rfl fun K46 hK46 => ?_
      refine s_begin ?_
      refine s_e rfl (e_move (v := .sc _) rfl) ?_
      refine s_e rfl (e_eq rfl rfl) ?_
      refine s_e rfl (e_move (v := .sc _) rfl) ?_
      refine s_cases (fun hb47 => ?_) (fun hb47 => ?_)
      ·have hb47R := hb47; try simp only [zz] at hb47
       refine s_e rfl (e_move (v := .lit _ _ _) rfl) ?_
       refine s_step [3] (by simp) rfl rfl rfl rfl (e_loadHA (cs := Lorry.enc (x)) (n := 2) rfl hbx2 (by kernel_rfl) (by kernel_rfl) (by kernel_rfl) (by exact Nat.zero_lt_one) (by decide) rfl) trivial ?_
       refine s_call (args := [.lit _ _ _, .agg _]) [] (by intro k hk; simp [keysOf, Go.Pv.keyOf, Lorry.enc] at hk; try (first | (subst hk; simp; done) | (rcases hk with rfl | rfl <;> simp; done))) rfl rfl rfl rfl (.cons inn_lit (.cons (inn_agg (Lorry.pure _)) .nil)) (tooBigC its x (by omega)) ?_
       refine s_e rfl (e_pickT (v := .sc _) rfl rfl) ?_
       refine s_end (ds := [44, 45, 46]) (by kernel_rfl) (by kernel_rfl) (hK46 _ ?_); clear hK46 K46
       refine pwp_seq_cond rfl fun K48 hK48 => ⟨fun hb49 => ?_, fun hb49 => ?_⟩
       ·have hb49R := hb49; try simp only [zz] at hb49
        refine pwp_plain rfl fun K50 hK50 => ?_
        refine p_aS rfl ?_
        refine p_end (hK50 _ ?_); clear hK50 K50
        refine seq_norm (hK48 _ ?_); clear hK48 K48
        refine pwp_seq_seq ?_
        refine pwp_seq_plain rfl fun K51 hK51 => ?_
        refine p_mS rfl ?_
        refine p_e rfl (e_neT rfl rfl (by decide)) ?_
        refine p_end (hK51 _ ?_); clear hK51 K51
        refine pwp_seq_cond (t := true) rfl fun K52 hK52 => ⟨fun _ => ?_, nofun⟩
        refine pwp_seq_gops rfl fun K53 hK53 => ?_
        refine g_begin ?_
        refine g_mS rfl rfl ?_
        refine g_mS rfl rfl ?_
        refine g_e rfl (e_eq rfl rfl) ?_
        refine g_mS rfl rfl ?_
        refine g_cases (fun hb54 => ?_) (fun hb54 => ?_)
        ·have hb54R := hb54; try simp only [zz] at hb54
         refine g_e rfl (e_move (v := .nil) rfl) ?_
         refine g_e rfl (e_lenN rfl (by kernel_rfl)) ?_
         refine g_e rfl (e_eq rfl rfl) ?_
         refine g_pT rfl rfl rfl ?_
         refine g_aS rfl rfl ?_
         refine g_end (ds := [54, 55, 56]) rfl rfl (hK53 _ ?_); clear hK53 K53
         refine pwp_ret ?_
         refine ret_seq ?_
         refine end1 (v := .sc _) rfl ?_
         first
           | exact out_b rfl
           | exact out_b (by rw [loadE_1 (by assumption)]; simp)
           | exact out_b (by rw [loadE_2 (by omega) (by simp only [List.length_map] at *; omega)]; rfl)
           | exact out_b (by rw [loadE_3 (by omega) (by simp only [List.length_map] at *; omega) (by assumption)]; rfl)
           | (exfalso; rw [loadE_1 (by assumption)] at *; simp_all; done)
           | (exfalso; have := loadE_2 (its := its) (x := x) (by omega) (by simp only [List.length_map] at *; omega); omega)
           | (exfalso; have := loadE_3 (its := its) (x := x) (by omega) (by simp only [List.length_map] at *; omega) (by assumption); omega)
        ·have hb54R := hb54; try simp only [zz] at hb54
         iterate 3 refine g_skip rfl rfl rfl ?_
         refine g_pF rfl rfl rfl ?_
         refine g_aS rfl rfl ?_
         refine g_end (ds := [54, 55, 56]) rfl rfl (hK53 _ ?_); clear hK53 K53
         refine pwp_ret ?_
         refine ret_seq ?_
         refine end1 (v := .sc _) rfl ?_
         first
           | exact out_b rfl
           | exact out_b (by rw [loadE_1 (by assumption)]; simp)
           | exact out_b (by rw [loadE_2 (by omega) (by simp only [List.length_map] at *; omega)]; rfl)
           | exact out_b (by rw [loadE_3 (by omega) (by simp only [List.length_map] at *; omega) (by assumption)]; rfl)
           | (exfalso; rw [loadE_1 (by assumption)] at *; simp_all; done)
           | (exfalso; have := loadE_2 (its := its) (x := x) (by omega) (by simp only [List.length_map] at *; omega); omega)
           | (exfalso; have := loadE_3 (its := its) (x := x) (by omega) (by simp only [List.length_map] at *; omega) (by assumption); omega)
       ·have hb49R := hb49; try simp only [zz] at hb49
        refine pwp_skip ?_
        refine seq_norm (hK48 _ ?_); clear hK48 K48
        refine pwp_seq_seq ?_
        refine pwp_seq_plain rfl fun K55 hK55 => ?_
        refine p_mS rfl ?_
        refine p_e rfl (e_ne rfl rfl) ?_
        refine p_end (hK55 _ ?_); clear hK55 K55
        refine pwp_seq_cond rfl fun K56 hK56 => ⟨fun hb57 => ?_, fun hb57 => ?_⟩
        ·have hb57R := hb57; try simp only [zz] at hb57
         refine pwp_seq_gops rfl fun K58 hK58 => ?_
         refine g_begin ?_
         refine g_mS rfl rfl ?_
         refine g_mS rfl rfl ?_
         refine g_e rfl (e_eq rfl rfl) ?_
         refine g_mS rfl rfl ?_
         refine g_cases (fun hb59 => ?_) (fun hb59 => ?_)
         ·have hb59R := hb59; try simp only [zz] at hb59
          refine g_e rfl (e_move (v := .nil) rfl) ?_
          refine g_e rfl (e_lenN rfl (by kernel_rfl)) ?_
          refine g_e rfl (e_eq rfl rfl) ?_
          refine g_pT rfl rfl rfl ?_
          refine g_aS rfl rfl ?_
          refine g_end (ds := [54, 55, 56]) rfl rfl (hK58 _ ?_); clear hK58 K58
          refine pwp_ret ?_
          refine ret_seq ?_
          refine end1 (v := .sc _) rfl ?_
          first
            | exact out_b rfl
            | exact out_b (by rw [loadE_1 (by assumption)]; simp)
            | exact out_b (by rw [loadE_2 (by omega) (by simp only [List.length_map] at *; omega)]; rfl)
            | exact out_b (by rw [loadE_3 (by omega) (by simp only [List.length_map] at *; omega) (by assumption)]; rfl)
            | (exfalso; rw [loadE_1 (by assumption)] at *; simp_all; done)
            | (exfalso; have := loadE_2 (its := its) (x := x) (by omega) (by simp only [List.length_map] at *; omega); omega)
            | (exfalso; have := loadE_3 (its := its) (x := x) (by omega) (by simp only [List.length_map] at *; omega) (by assumption); omega)
         ·have hb59R := hb59; try simp only [zz] at hb59
          iterate 3 refine g_skip rfl rfl rfl ?_
          refine g_pF rfl rfl rfl ?_
          refine g_aS rfl rfl ?_
          refine g_end (ds := [54, 55, 56]) rfl rfl (hK58 _ ?_); clear hK58 K58
          refine pwp_ret ?_
          refine ret_seq ?_
          refine end1 (v := .sc _) rfl ?_
          first
            | exact out_b rfl
            | exact out_b (by rw [loadE_1 (by assumption)]; simp)
            | exact out_b (by rw [loadE_2 (by omega) (by simp only [List.length_map] at *; omega)]; rfl)
            | exact out_b (by rw [loadE_3 (by omega) (by simp only [List.length_map] at *; omega) (by assumption)]; rfl)
            | (exfalso; rw [loadE_1 (by assumption)] at *; simp_all; done)
            | (exfalso; have := loadE_2 (its := its) (x := x) (by omega) (by simp only [List.length_map] at *; omega); omega)
            | (exfalso; have := loadE_3 (its := its) (x := x) (by omega) (by simp only [List.length_map] at *; omega) (by assumption); omega)
        ·have hb57R := hb57; try simp only [zz] at hb57
         refine pwp_skip ?_
         refine seq_norm (hK56 _ ?_); clear hK56 K56
         first | (exfalso; omega) | exact absurd (loadE_0 (by omega) (by simp only [List.length_map] at *; omega) (by first | assumption | (simp only [Bool.not_eq_true] at *; assumption))) hA
      ·have hb47R := hb47; try simp only [zz] at hb47
       refine s_skip rfl rfl rfl ?_
       refine s_skip rfl rfl rfl ?_
       refine s_nocall (args := [.dead, .dead]) [] (by intro k hk; simp [keysOf, Go.Pv.keyOf] at hk) rfl rfl rfl ?_
       refine s_e rfl (e_pickF (v := .sc _) rfl rfl) ?_
       refine s_end (ds := [44, 45, 46]) (by kernel_rfl) (by kernel_rfl) (hK46 _ ?_); clear hK46 K46
       refine pwp_seq_cond (t := false) rfl fun K60 hK60 => ⟨nofun, fun _ => ?_⟩
       refine pwp_skip ?_
       refine seq_norm (hK60 _ ?_); clear hK60 K60
       refine pwp_seq_seq ?_
       refine pwp_seq_plain rfl fun K61 hK61 => ?_
       refine p_mS rfl ?_
       refine p_e rfl (e_ne rfl rfl) ?_
       refine p_end (hK61 _ ?_); clear hK61 K61
       refine pwp_seq_cond rfl fun K62 hK62 => ⟨fun hb63 => ?_, fun hb63 => ?_⟩
       ·have hb63R := hb63; try simp only [zz] at hb63
        refine pwp_seq_gops rfl fun K64 hK64 => ?_
        refine g_begin ?_
        refine g_mS rfl rfl ?_
        refine g_mS rfl rfl ?_
        refine g_e rfl (e_eq rfl rfl) ?_
        refine g_mS rfl rfl ?_
        refine g_cases (fun hb65 => ?_) (fun hb65 => ?_)
        ·have hb65R := hb65; try simp only [zz] at hb65
         refine g_e rfl (e_move (v := .nil) rfl) ?_
         refine g_e rfl (e_lenN rfl (by kernel_rfl)) ?_
         refine g_e rfl (e_eq rfl rfl) ?_
         refine g_pT rfl rfl rfl ?_
         refine g_aS rfl rfl ?_
         refine g_end (ds := [54, 55, 56]) rfl rfl (hK64 _ ?_); clear hK64 K64
         refine pwp_ret ?_
         refine ret_seq ?_
         refine end1 (v := .sc _) rfl ?_
         first
           | exact out_b rfl
           | exact out_b (by rw [loadE_1 (by assumption)]; simp)
           | exact out_b (by rw [loadE_2 (by omega) (by simp only [List.length_map] at *; omega)]; rfl)
           | exact out_b (by rw [loadE_3 (by omega) (by simp only [List.length_map] at *; omega) (by assumption)]; rfl)
           | (exfalso; rw [loadE_1 (by assumption)] at *; simp_all; done)
           | (exfalso; have := loadE_2 (its := its) (x := x) (by omega) (by simp only [List.length_map] at *; omega); omega)
           | (exfalso; have := loadE_3 (its := its) (x := x) (by omega) (by simp only [List.length_map] at *; omega) (by assumption); omega)
        ·have hb65R := hb65; try simp only [zz] at hb65
         iterate 3 refine g_skip rfl rfl rfl ?_
         refine g_pF rfl rfl rfl ?_
         refine g_aS rfl rfl ?_
         refine g_end (ds := [54, 55, 56]) rfl rfl (hK64 _ ?_); clear hK64 K64
         refine pwp_ret ?_
         refine ret_seq ?_
         refine end1 (v := .sc _) rfl ?_
         first
           | exact out_b rfl
           | exact out_b (by rw [loadE_1 (by assumption)]; simp)
           | exact out_b (by rw [loadE_2 (by omega) (by simp only [List.length_map] at *; omega)]; rfl)
           | exact out_b (by rw [loadE_3 (by omega) (by simp only [List.length_map] at *; omega) (by assumption)]; rfl)
           | (exfalso; rw [loadE_1 (by assumption)] at *; simp_all; done)
           | (exfalso; have := loadE_2 (its := its) (x := x) (by omega) (by simp only [List.length_map] at *; omega); omega)
           | (exfalso; have := loadE_3 (its := its) (x := x) (by omega) (by simp only [List.length_map] at *; omega) (by assumption); omega)
       ·have hb63R := hb63; try simp only [zz] at hb63
        refine pwp_skip ?_
        refine seq_norm (hK62 _ ?_); clear hK62 K62
        first | (exfalso; omega) | exact absurd (loadE_0 (by omega) (by simp only [List.length_map] at *; omega) (by first | assumption | (simp only [Bool.not_eq_true] at *; assumption))) hA
    ·skip
     obtain ⟨hz, h12, hb⟩ := loadE_inv hLE
     have hit := itemsE_ok hz
     have hm1 : ∀ y ∈ its, 0 ≤ y.mass ∧ y.mass ≤ 100000000 := fun y hy => (hit.2.1 y hy).1
     have hx1 : 0 ≤ x.mass ∧ x.mass ≤ 100000000 := by omega
     obtain ⟨n, hnn, hn1, hn2⟩ := least_ex (its := its) (x := x) h12
     have hG3 : (0 : Int) = (n : Int) := by rw [show n = 0 from Nat.eq_zero_of_not_pos fun q => by have := hn2 0 q; rw [hE, fitsV] at this; cases this]; rfl
     have hG1 : loadsE its x [] = 0 := by rw [hE] at hz ⊢; exact loads_nil hz
     have hG2 : lorW its x ≤ 0 := by rw [hE] at hz ⊢; rw [lor_nil hz (by omega)]; decide
     refine p_e rfl (e_move (v := .tup _) rfl) ?_
     refine p_e rfl (e_ext (v := .nil) rfl (by simp) rfl) ?_
     refine p_e rfl (e_ext (v := .sc _) rfl (by simp) rfl) ?_
     refine p_e rfl (e_assign (v := .nil) rfl) ?_
     refine p_aS rfl ?_
     refine p_end (hK12 _ ?_); clear hK12 K12
     refine pwp_seq_plain rfl fun K66 hK66 => ?_
     refine p_e rfl (e_move (v := .lit _ _ _) rfl) ?_
     refine p_e rfl (e_loadHA (cs := Lorry.enc (x)) (n := 2) rfl hbx2 (by kernel_rfl) (by kernel_rfl) (by kernel_rfl) (by exact Nat.zero_lt_one) (by decide) rfl) ?_
     refine p_call rfl (.cons inn_lit (.cons (inn_agg (Lorry.pure _)) .nil)) (refItems its x (by omega) hs) ?_
     refine p_aS rfl ?_
     refine p_end (hK66 _ ?_); clear hK66 K66
     refine pwp_seq_seq ?_
     refine pwp_seq_gops rfl fun K67 hK67 => ?_
     refine g_begin ?_
     refine g_mS rfl rfl ?_
     refine g_e rfl (e_eqT rfl rfl hz) ?_
     refine g_mS rfl rfl ?_
     refine g_e rfl (e_move (v := .lit _ _ _) rfl) ?_
     refine g_e rfl (e_len rfl (by kernel_rfl)) ?_
     refine g_e rfl (e_gtF rfl rfl (by simp only [List.length_map]; omega)) ?_
     refine g_pT rfl rfl rfl ?_
     refine g_end (ds := [37, 38, 39]) rfl rfl (hK67 _ ?_); clear hK67 K67
     refine pwp_seq_cond (t := false) rfl fun K68 hK68 => ⟨nofun, fun _ => ?_⟩
     refine pwp_skip ?_
     refine seq_norm (hK68 _ ?_); clear hK68 K68
     refine pwp_seq_seq ?_
     refine pwp_seq_gops rfl fun K69 hK69 => ?_
     refine s_begin ?_
     refine s_e rfl (e_move (v := .sc _) rfl) ?_
     refine s_e rfl (e_eqT rfl rfl hz) ?_
     refine s_e rfl (e_move (v := .sc _) rfl) ?_
     refine s_e rfl (e_move (v := .lit _ _ _) rfl) ?_
     refine s_step [3] (by simp) rfl rfl rfl rfl (e_loadHA (cs := Lorry.enc (x)) (n := 2) rfl hbx2 (by kernel_rfl) (by kernel_rfl) (by kernel_rfl) (by exact Nat.zero_lt_one) (by decide) rfl) trivial ?_
     refine s_call (args := [.lit _ _ _, .agg _]) [] (by intro k hk; simp [keysOf, Go.Pv.keyOf, Lorry.enc] at hk; try (first | (subst hk; simp; done) | (rcases hk with rfl | rfl <;> simp; done))) rfl rfl rfl rfl (.cons inn_lit (.cons (inn_agg (Lorry.pure _)) .nil)) (tooBigF its x (by omega) hb) ?_
     refine s_e rfl (e_pickT (v := .sc _) rfl rfl) ?_
     refine s_end (ds := [44, 45, 46]) (by kernel_rfl) (by kernel_rfl) (hK69 _ ?_); clear hK69 K69
     refine pwp_seq_cond (t := false) rfl fun K70 hK70 => ⟨nofun, fun _ => ?_⟩
     refine pwp_skip ?_
     refine seq_norm (hK70 _ ?_); clear hK70 K70
     refine pwp_seq_seq ?_
     refine pwp_seq_plain rfl fun K71 hK71 => ?_
     refine p_mS rfl ?_
     refine p_e rfl (e_neF rfl rfl (fun q => q hz)) ?_
     refine p_end (hK71 _ ?_); clear hK71 K71
     refine pwp_seq_cond (t := false) rfl fun K72 hK72 => ⟨nofun, fun _ => ?_⟩
     refine pwp_skip ?_
     refine seq_norm (hK72 _ ?_); clear hK72 K72
     refine pwp_seq_plain rfl fun K73 hK73 => ?_
     refine p_e rfl (e_move (v := .lit _ _ _) rfl) ?_
     refine p_e rfl (e_loadHA (cs := Lorry.enc (x)) (n := 2) rfl hbx2 (by kernel_rfl) (by kernel_rfl) (by kernel_rfl) (by exact Nat.zero_lt_one) (by decide) rfl) ?_
     refine p_call rfl (.cons inn_lit (.cons (inn_agg (Lorry.pure _)) .nil)) (LeastLorries its x (by omega) hs) ?_
     refine p_e rfl (e_move (v := .tup _) rfl) ?_
     refine p_e rfl (e_ext (v := .sc _) rfl (by simp) rfl) ?_
     refine p_e rfl (e_ext (v := .sc _) rfl (by simp) rfl) ?_
     refine p_aS rfl ?_
     refine p_aS rfl ?_
     refine p_end (hK73 _ ?_); clear hK73 K73
     refine pwp_seq_gops rfl fun K74 hK74 => ?_
     refine s_begin ?_
     refine s_e rfl (e_move (v := .sc _) rfl) ?_
     refine s_e rfl (e_eqT rfl rfl rfl) ?_
     refine s_e rfl (e_move (v := .sc _) rfl) ?_
     refine s_e rfl (e_move (v := .sc _) rfl) ?_
     refine s_e rfl (e_eqT rfl rfl hz) ?_
     refine s_e rfl (e_pickT (v := .sc _) rfl rfl) ?_
     refine s_e rfl (e_move (v := .sc _) rfl) ?_
     refine s_e rfl (e_move (v := .nil) rfl) ?_
     refine s_e rfl (e_lenN rfl (by kernel_rfl)) ?_
     refine s_e rfl (e_move (v := .lit _ _ _) rfl) ?_
     refine s_step [3] (by simp) rfl rfl rfl rfl (e_loadHA (cs := Lorry.enc (x)) (n := 2) rfl hbx2 (by kernel_rfl) (by kernel_rfl) (by kernel_rfl) (by exact Nat.zero_lt_one) (by decide) rfl) trivial ?_
     refine s_call (args := [.lit _ _ _, .agg _]) [] (by intro k hk; simp [keysOf, Go.Pv.keyOf, Lorry.enc] at hk; try (first | (subst hk; simp; done) | (rcases hk with rfl | rfl <;> simp; done))) rfl rfl rfl rfl (.cons inn_lit (.cons (inn_agg (Lorry.pure _)) .nil)) (leastLC its x (by omega) hm1 hx1 n hnn hn1 hn2) ?_
     refine s_e rfl (e_eqT rfl rfl hG3) ?_
     refine s_e rfl (e_pickT (v := .sc _) rfl rfl) ?_
     refine s_e rfl (e_move (v := .sc _) rfl) ?_
     refine s_e rfl (e_move (v := .nil) rfl) ?_
     refine s_e rfl (e_lenN rfl (by kernel_rfl)) ?_
     refine s_e rfl (e_move (v := .sc _) rfl) ?_
     refine s_e rfl (e_geT rfl rfl hG2) ?_
     refine s_e rfl (e_pickT (v := .sc _) rfl rfl) ?_
     refine s_e rfl (e_move (v := .sc _) rfl) ?_
     refine s_e rfl (e_move (v := .lit _ _ _) rfl) ?_
     refine s_step [3] (by simp) rfl rfl rfl rfl (e_loadHA (cs := Lorry.enc (x)) (n := 2) rfl hbx2 (by kernel_rfl) (by kernel_rfl) (by kernel_rfl) (by exact Nat.zero_lt_one) (by decide) rfl) trivial ?_
     refine s_e rfl (e_move (v := .nil) rfl) ?_
     refine s_call (args := [.lit _ _ _, .agg _, .nil]) [] (by intro k hk; simp [keysOf, Go.Pv.keyOf, Lorry.enc] at hk) rfl rfl rfl rfl (.cons inn_lit (.cons (inn_agg (Lorry.pure _)) (.cons inn_nil .nil))) (refLoads its x [] (by omega) (by simp) hs (by simp)) ?_
     refine s_e rfl (e_eqT rfl rfl hG1) ?_
     refine s_e rfl (e_pickT (v := .sc _) rfl rfl) ?_
     refine s_e rfl (e_move (v := .sc _) rfl) ?_
     refine s_e rfl (e_move (v := .lit _ _ _) rfl) ?_
     refine s_step [3] (by simp) rfl rfl rfl rfl (e_loadHA (cs := Lorry.enc (x)) (n := 2) rfl hbx2 (by kernel_rfl) (by kernel_rfl) (by kernel_rfl) (by exact Nat.zero_lt_one) (by decide) rfl) trivial ?_
     refine s_e rfl (e_move (v := .nil) rfl) ?_
     refine s_call (args := [.lit _ _ _, .agg _, .nil]) [] (by intro k hk; simp [keysOf, Go.Pv.keyOf, Lorry.enc] at hk) rfl rfl rfl rfl (.cons inn_lit (.cons (inn_agg (Lorry.pure _)) (.cons inn_nil .nil))) (CheckLoads its x [] (by omega) (by simp) hs (by simp)) ?_
     refine s_e rfl (e_eqT rfl rfl hG1) ?_
     refine s_e rfl (e_pickT (v := .sc _) rfl rfl) ?_
     refine s_e rfl (e_assign (v := .sc _) rfl) ?_
     refine s_end (ds := [67, 68, 71, 72, 73, 74, 75, 76, 79, 80, 81, 82, 85, 86, 87, 88, 89, 92, 93, 94, 95, 96]) (by kernel_rfl) (by kernel_rfl) (hK74 _ ?_); clear hK74 K74
     refine pwp_ret ?_
     refine end1 (v := .sc _) rfl ?_
     first
       | exact out_b rfl
       | exact out_b (by rw [loadE_1 (by assumption)]; simp)
       | exact out_b (by rw [loadE_2 (by omega) (by simp only [List.length_map] at *; omega)]; rfl)
       | exact out_b (by rw [loadE_3 (by omega) (by simp only [List.length_map] at *; omega) (by assumption)]; rfl)
       | (exfalso; rw [loadE_1 (by assumption)] at *; simp_all; done)
       | (exfalso; have := loadE_2 (its := its) (x := x) (by omega) (by simp only [List.length_map] at *; omega); omega)
       | (exfalso; have := loadE_3 (its := its) (x := x) (by omega) (by simp only [List.length_map] at *; omega) (by assumption); omega)
    ·skip
     obtain ⟨hz, h12, hb⟩ := loadE_inv hLE
     have hit := itemsE_ok hz
     have hm1 : ∀ y ∈ its, 0 ≤ y.mass ∧ y.mass ≤ 100000000 := fun y hy => (hit.2.1 y hy).1
     have hx1 : 0 ≤ x.mass ∧ x.mass ≤ 100000000 := by omega
     obtain ⟨n, hnn, hn1, hn2⟩ := least_ex (its := its) (x := x) h12
     have hms2 := (load_pre hz hb hl6 (fun e => hne (List.eq_nil_of_length_eq_zero e))); obtain ⟨_, _, _, _, _, hits⟩ := hms2
     have hG4 := lor_least hl6 hne hx1.1 hits hn1 hn2; have hG5 := hLd.2.1
     have hG3 : ((vs.length : Nat) : Int) = (n : Int) := by have := hGd.2.2.1; omega
     have hG2 : lorW its x ≤ ((vs.length : Nat) : Int) := by have := hGd.2.1; rw [lorW, if_pos hz]; omega
     have hG1 := hGd.1; have hG7 := hGd.2.2.2.1; have hG8 := hGd.2.2.2.2
     obtain ⟨ks, hks, hkx⟩ := hLd.x
     refine p_e rfl (e_move (v := .tup _) rfl) ?_
     refine p_e rfl (e_ext (v := .ref _ _ _ _) rfl (by simp) rfl) ?_
     refine p_e rfl (e_ext (v := .sc _) rfl (by simp) rfl) ?_
     refine p_e rfl (e_assign (v := .ref _ _ _ _) rfl) ?_
     refine p_aS rfl ?_
     refine p_end (hK12 _ ?_); clear hK12 K12
     refine pwp_seq_plain rfl fun K75 hK75 => ?_
     refine p_e rfl (e_move (v := .lit _ _ _) rfl) ?_
     refine p_e rfl (e_loadHA (cs := Lorry.enc (x)) (n := 2) rfl hbx2 (by kernel_rfl) (by kernel_rfl) (by kernel_rfl) (by exact Nat.zero_lt_one) (by decide) rfl) ?_
     refine p_call rfl (.cons inn_lit (.cons (inn_agg (Lorry.pure _)) .nil)) (refItems its x (by omega) hs) ?_
     refine p_aS rfl ?_
     refine p_end (hK75 _ ?_); clear hK75 K75
     refine pwp_seq_seq ?_
     refine pwp_seq_gops rfl fun K76 hK76 => ?_
     refine g_begin ?_
     refine g_mS rfl rfl ?_
     refine g_e rfl (e_eqT rfl rfl hz) ?_
     refine g_mS rfl rfl ?_
     refine g_e rfl (e_move (v := .lit _ _ _) rfl) ?_
     refine g_e rfl (e_len rfl (by kernel_rfl)) ?_
     refine g_e rfl (e_gtF rfl rfl (by simp only [List.length_map]; omega)) ?_
     refine g_pT rfl rfl rfl ?_
     refine g_end (ds := [37, 38, 39]) rfl rfl (hK76 _ ?_); clear hK76 K76
     refine pwp_seq_cond (t := false) rfl fun K77 hK77 => ⟨nofun, fun _ => ?_⟩
     refine pwp_skip ?_
     refine seq_norm (hK77 _ ?_); clear hK77 K77
     refine pwp_seq_seq ?_
     refine pwp_seq_gops rfl fun K78 hK78 => ?_
     refine s_begin ?_
     refine s_e rfl (e_move (v := .sc _) rfl) ?_
     refine s_e rfl (e_eqT rfl rfl hz) ?_
     refine s_e rfl (e_move (v := .sc _) rfl) ?_
     refine s_e rfl (e_move (v := .lit _ _ _) rfl) ?_
     refine s_step [3] (by simp) rfl rfl rfl rfl (e_loadHA (cs := Lorry.enc (x)) (n := 2) rfl hbx2 (by kernel_rfl) (by kernel_rfl) (by kernel_rfl) (by exact Nat.zero_lt_one) (by decide) rfl) trivial ?_
     refine s_call (args := [.lit _ _ _, .agg _]) [] (by intro k hk; simp [keysOf, Go.Pv.keyOf, Lorry.enc] at hk; try (first | (subst hk; simp; done) | (rcases hk with rfl | rfl <;> simp; done))) rfl rfl rfl rfl (.cons inn_lit (.cons (inn_agg (Lorry.pure _)) .nil)) (tooBigF its x (by omega) hb) ?_
     refine s_e rfl (e_pickT (v := .sc _) rfl rfl) ?_
     refine s_end (ds := [44, 45, 46]) (by kernel_rfl) (by kernel_rfl) (hK78 _ ?_); clear hK78 K78
     refine pwp_seq_cond (t := false) rfl fun K79 hK79 => ⟨nofun, fun _ => ?_⟩
     refine pwp_skip ?_
     refine seq_norm (hK79 _ ?_); clear hK79 K79
     refine pwp_seq_seq ?_
     refine pwp_seq_plain rfl fun K80 hK80 => ?_
     refine p_mS rfl ?_
     refine p_e rfl (e_neF rfl rfl (fun q => q hz)) ?_
     refine p_end (hK80 _ ?_); clear hK80 K80
     refine pwp_seq_cond (t := false) rfl fun K81 hK81 => ⟨nofun, fun _ => ?_⟩
     refine pwp_skip ?_
     refine seq_norm (hK81 _ ?_); clear hK81 K81
     refine pwp_seq_plain rfl fun K82 hK82 => ?_
     refine p_e rfl (e_move (v := .lit _ _ _) rfl) ?_
     refine p_e rfl (e_loadHA (cs := Lorry.enc (x)) (n := 2) rfl hbx2 (by kernel_rfl) (by kernel_rfl) (by kernel_rfl) (by exact Nat.zero_lt_one) (by decide) rfl) ?_
     refine p_call rfl (.cons inn_lit (.cons (inn_agg (Lorry.pure _)) .nil)) (LeastLorries its x (by omega) hs) ?_
     refine p_e rfl (e_move (v := .tup _) rfl) ?_
     refine p_e rfl (e_ext (v := .sc _) rfl (by simp) rfl) ?_
     refine p_e rfl (e_ext (v := .sc _) rfl (by simp) rfl) ?_
     refine p_aS rfl ?_
     refine p_aS rfl ?_
     refine p_end (hK82 _ ?_); clear hK82 K82
     refine pwp_seq_gops rfl fun K83 hK83 => ?_
     refine s_begin ?_
     refine s_e rfl (e_move (v := .sc _) rfl) ?_
     refine s_e rfl (e_eqT rfl rfl rfl) ?_
     refine s_e rfl (e_move (v := .sc _) rfl) ?_
     refine s_e rfl (e_move (v := .sc _) rfl) ?_
     refine s_e rfl (e_eqT rfl rfl hz) ?_
     refine s_e rfl (e_pickT (v := .sc _) rfl rfl) ?_
     refine s_e rfl (e_move (v := .sc _) rfl) ?_
     refine s_e rfl (e_move (v := .ref _ _ _ _) rfl) ?_
     refine s_e rfl (e_lenR rfl (by kernel_rfl)) ?_
     refine s_e rfl (e_move (v := .lit _ _ _) rfl) ?_
     refine s_step [3] (by simp) rfl rfl rfl rfl (e_loadHA (cs := Lorry.enc (x)) (n := 2) rfl hbx2 (by kernel_rfl) (by kernel_rfl) (by kernel_rfl) (by exact Nat.zero_lt_one) (by decide) rfl) trivial ?_
     refine s_call (args := [.lit _ _ _, .agg _]) [] (by intro k hk; simp [keysOf, Go.Pv.keyOf, Lorry.enc] at hk; try (first | (subst hk; simp; done) | (rcases hk with rfl | rfl <;> simp; done))) rfl rfl rfl rfl (.cons inn_lit (.cons (inn_agg (Lorry.pure _)) .nil)) (leastLC its x (by omega) hm1 hx1 n hnn hn1 hn2) ?_
     refine s_e rfl (e_eqT rfl rfl hG3) ?_
     refine s_e rfl (e_pickT (v := .sc _) rfl rfl) ?_
     refine s_e rfl (e_move (v := .sc _) rfl) ?_
     refine s_e rfl (e_move (v := .ref _ _ _ _) rfl) ?_
     refine s_e rfl (e_lenR rfl (by kernel_rfl)) ?_
     refine s_e rfl (e_move (v := .sc _) rfl) ?_
     refine s_e rfl (e_geT rfl rfl hG2) ?_
     refine s_e rfl (e_pickT (v := .sc _) rfl rfl) ?_
     refine s_e rfl (e_move (v := .sc _) rfl) ?_
     refine s_e rfl (e_move (v := .lit _ _ _) rfl) ?_
     refine s_step [3] (by simp) rfl rfl rfl rfl (e_loadHA (cs := Lorry.enc (x)) (n := 2) rfl hbx2 (by kernel_rfl) (by kernel_rfl) (by kernel_rfl) (by exact Nat.zero_lt_one) (by decide) rfl) trivial ?_
     refine s_e rfl (e_move (v := .ref _ _ _ _) rfl) ?_
     refine s_callX (args := [.lit _ _ _, .agg _, .ref _ _ _ _]) [109, 140] hks rfl rfl rfl rfl (.cons (.base inn_lit (by intro k hk; simp [keysOf, Go.Pv.keyOf] at hk)) (.cons (.base (inn_agg (Lorry.pure _)) (by intro k hk; simp [keysOf, Go.Pv.keyOf, Lorry.enc] at hk)) (.cons hkx .nil))) (refLoads its x ls (by omega) (by omega) hs hG8) ?_
     refine s_e rfl (e_eqT rfl rfl hG1) ?_
     refine s_e rfl (e_pickT (v := .sc _) rfl rfl) ?_
     refine s_e rfl (e_move (v := .sc _) rfl) ?_
     refine s_e rfl (e_move (v := .lit _ _ _) rfl) ?_
     refine s_step [3] (by simp) rfl rfl rfl rfl (e_loadHA (cs := Lorry.enc (x)) (n := 2) rfl hbx2 (by kernel_rfl) (by kernel_rfl) (by kernel_rfl) (by exact Nat.zero_lt_one) (by decide) rfl) trivial ?_
     refine s_e rfl (e_move (v := .ref _ _ _ _) rfl) ?_
     refine s_callX (args := [.lit _ _ _, .agg _, .ref _ _ _ _]) [109, 140] hks rfl rfl rfl rfl (.cons (.base inn_lit (by intro k hk; simp [keysOf, Go.Pv.keyOf] at hk)) (.cons (.base (inn_agg (Lorry.pure _)) (by intro k hk; simp [keysOf, Go.Pv.keyOf, Lorry.enc] at hk)) (.cons hkx .nil))) (CheckLoads its x ls (by omega) (by omega) hs hG8) ?_
     refine s_e rfl (e_eqT rfl rfl hG1) ?_
     refine s_e rfl (e_pickT (v := .sc _) rfl rfl) ?_
     refine s_e rfl (e_assign (v := .sc _) rfl) ?_
     refine s_end (ds := [67, 68, 71, 72, 73, 74, 75, 76, 79, 80, 81, 82, 85, 86, 87, 88, 89, 92, 93, 94, 95, 96]) (by kernel_rfl) (by kernel_rfl) (hK83 _ ?_); clear hK83 K83
     refine pwp_ret ?_
     refine end1 (v := .sc _) rfl ?_
     first
       | exact out_b rfl
       | exact out_b (by rw [loadE_1 (by assumption)]; simp)
       | exact out_b (by rw [loadE_2 (by omega) (by simp only [List.length_map] at *; omega)]; rfl)
       | exact out_b (by rw [loadE_3 (by omega) (by simp only [List.length_map] at *; omega) (by assumption)]; rfl)
       | (exfalso; rw [loadE_1 (by assumption)] at *; simp_all; done)
       | (exfalso; have := loadE_2 (its := its) (x := x) (by omega) (by simp only [List.length_map] at *; omega); omega)
       | (exfalso; have := loadE_3 (its := its) (x := x) (by omega) (by simp only [List.length_map] at *; omega) (by assumption); omega)
  ·have hb8R := hb8; try simp only [zz] at hb8
   iterate 3 refine g_skip rfl rfl rfl ?_
   refine g_pF rfl rfl rfl ?_
   refine g_pF rfl rfl rfl ?_
   refine g_end (ds := [16, 17, 18, 19, 20, 21, 22, 23]) rfl rfl (hK4 _ ?_); clear hK4 K4
   refine pwp_seq_cond (t := false) rfl fun K84 hK84 => ⟨nofun, fun _ => ?_⟩
   refine pwp_skip ?_
   refine seq_norm (hK84 _ ?_); clear hK84 K84
   have hlt : lightB its [] = true := by first | assumption | simp_all
   have hl := (lightB_iff hlt).1; have hs := (lightB_iff hlt).2.2.1
   have h6 : its.length ≤ 6 ∨ 12 < its.length := by simp only [List.length_map] at *; omega
   refine pwp_seq_plain rfl fun K85 hK85 => ?_
   refine p_e rfl (e_move (v := .lit _ _ _) rfl) ?_
   refine p_e rfl (e_loadHA (cs := Lorry.enc (x)) (n := 2) rfl (hset_self _ _ _) (by kernel_rfl) (by kernel_rfl) (by kernel_rfl) (by exact Nat.zero_lt_one) (by decide) rfl) ?_
   refine p_hcall rfl (loadH its x hl hs h6 _ _) fun v_ h_ c_ hR_ => ?_
   obtain ⟨hOx, hRc⟩ := hR_
   have hbx2 := (hOx.get (k := (3, 0)) (by exact Nat.zero_lt_one)).trans (hset_self _ _ _)
   rcases hRc with ⟨hA, rfl⟩ | ⟨hLE, hE, rfl⟩ | ⟨hLE, hne, hl6, gO, vs, ls, rfl, hLd, hGd⟩
   ·skip
    refine p_e rfl (e_move (v := .tup _) rfl) ?_
    refine p_e rfl (e_ext (v := .nil) rfl (by simp) rfl) ?_
    refine p_e rfl (e_ext (v := .sc _) rfl (by simp) rfl) ?_
    refine p_e rfl (e_assign (v := .nil) rfl) ?_
    refine p_aS rfl ?_
    refine p_end (hK85 _ ?_); clear hK85 K85
    refine pwp_seq_plain rfl fun K86 hK86 => ?_
    refine p_e rfl (e_move (v := .lit _ _ _) rfl) ?_
    refine p_e rfl (e_loadHA (cs := Lorry.enc (x)) (n := 2) rfl hbx2 (by kernel_rfl) (by kernel_rfl) (by kernel_rfl) (by exact Nat.zero_lt_one) (by decide) rfl) ?_
    refine p_call rfl (.cons inn_lit (.cons (inn_agg (Lorry.pure _)) .nil)) (refItems its x (by omega) hs) ?_
    refine p_aS rfl ?_
    refine p_end (hK86 _ ?_); clear hK86 K86
    refine pwp_seq_seq ?_
    refine pwp_seq_gops rfl fun K87 hK87 => ?_
    refine g_begin ?_
    refine g_mS rfl rfl ?_
    refine g_e rfl (e_eq rfl rfl) ?_
    refine g_mS rfl rfl ?_
    refine g_cases (fun hb88 => ?_) (fun hb88 => ?_)
    ·have hb88R := hb88; try simp only [zz] at hb88
     refine g_e rfl (e_move (v := .lit _ _ _) rfl) ?_
     refine g_e rfl (e_len rfl (by kernel_rfl)) ?_
     refine g_e rfl (e_gt rfl rfl) ?_
     refine g_pT rfl rfl rfl ?_
     refine g_end (ds := [37, 38, 39]) rfl rfl (hK87 _ ?_); clear hK87 K87
     refine pwp_seq_cond rfl fun K89 hK89 => ⟨fun hb90 => ?_, fun hb90 => ?_⟩
     ·have hb90R := hb90; try simp only [zz] at hb90
      refine pwp_plain rfl fun K91 hK91 => ?_
      refine p_aS rfl ?_
      refine p_end (hK91 _ ?_); clear hK91 K91
      refine seq_norm (hK89 _ ?_); clear hK89 K89
      refine pwp_seq_seq ?_
      refine pwp_seq_gops rfl fun K92 hK92 => ?_
      refine s_begin ?_
      refine s_e rfl (e_move (v := .sc _) rfl) ?_
      refine s_e rfl (e_eqF rfl rfl (by decide)) ?_
      refine s_e rfl (e_move (v := .sc _) rfl) ?_
      refine s_skip rfl rfl rfl ?_
      refine s_skip rfl rfl rfl ?_
      refine s_nocall (args := [.dead, .dead]) [] (by intro k hk; simp [keysOf, Go.Pv.keyOf] at hk) rfl rfl rfl ?_
      refine s_e rfl (e_pickF (v := .sc _) rfl rfl) ?_
      refine s_end (ds := [44, 45, 46]) (by kernel_rfl) (by kernel_rfl) (hK92 _ ?_); clear hK92 K92
      refine pwp_seq_cond (t := false) rfl fun K93 hK93 => ⟨nofun, fun _ => ?_⟩
      refine pwp_skip ?_
      refine seq_norm (hK93 _ ?_); clear hK93 K93
      refine pwp_seq_seq ?_
      refine pwp_seq_plain rfl fun K94 hK94 => ?_
      refine p_mS rfl ?_
      refine p_e rfl (e_neT rfl rfl (by decide)) ?_
      refine p_end (hK94 _ ?_); clear hK94 K94
      refine pwp_seq_cond (t := true) rfl fun K95 hK95 => ⟨fun _ => ?_, nofun⟩
      refine pwp_seq_gops rfl fun K96 hK96 => ?_
      refine g_begin ?_
      refine g_mS rfl rfl ?_
      refine g_mS rfl rfl ?_
      refine g_e rfl (e_eq rfl rfl) ?_
      refine g_mS rfl rfl ?_
      refine g_cases (fun hb97 => ?_) (fun hb97 => ?_)
      ·have hb97R := hb97; try simp only [zz] at hb97
       refine g_e rfl (e_move (v := .nil) rfl) ?_
       refine g_e rfl (e_lenN rfl (by kernel_rfl)) ?_
       refine g_e rfl (e_eq rfl rfl) ?_
       refine g_pT rfl rfl rfl ?_
       refine g_aS rfl rfl ?_
       refine g_end (ds := [54, 55, 56]) rfl rfl (hK96 _ ?_); clear hK96 K96
       refine pwp_ret ?_
       refine ret_seq ?_
       refine end1 (v := .sc _) rfl ?_
       first
         | exact out_b rfl
         | exact out_b (by rw [loadE_1 (by assumption)]; simp)
         | exact out_b (by rw [loadE_2 (by omega) (by simp only [List.length_map] at *; omega)]; rfl)
         | exact out_b (by rw [loadE_3 (by omega) (by simp only [List.length_map] at *; omega) (by assumption)]; rfl)
         | (exfalso; rw [loadE_1 (by assumption)] at *; simp_all; done)
         | (exfalso; have := loadE_2 (its := its) (x := x) (by omega) (by simp only [List.length_map] at *; omega); omega)
         | (exfalso; have := loadE_3 (its := its) (x := x) (by omega) (by simp only [List.length_map] at *; omega) (by assumption); omega)
      ·have hb97R := hb97; try simp only [zz] at hb97
       iterate 3 refine g_skip rfl rfl rfl ?_
       refine g_pF rfl rfl rfl ?_
       refine g_aS rfl rfl ?_
       refine g_end (ds := [54, 55, 56]) rfl rfl (hK96 _ ?_); clear hK96 K96
       refine pwp_ret ?_
       refine ret_seq ?_
       refine end1 (v := .sc _) rfl ?_
       first
         | exact out_b rfl
         | exact out_b (by rw [loadE_1 (by assumption)]; simp)
         | exact out_b (by rw [loadE_2 (by omega) (by simp only [List.length_map] at *; omega)]; rfl)
         | exact out_b (by rw [loadE_3 (by omega) (by simp only [List.length_map] at *; omega) (by assumption)]; rfl)
         | (exfalso; rw [loadE_1 (by assumption)] at *; simp_all; done)
         | (exfalso; have := loadE_2 (its := its) (x := x) (by omega) (by simp only [List.length_map] at *; omega); omega)
         | (exfalso; have := loadE_3 (its := its) (x := x) (by omega) (by simp only [List.length_map] at *; omega) (by assumption); omega)
     ·have hb90R := hb90; try simp only [zz] at hb90
      refine pwp_skip ?_
      refine seq_norm (hK89 _ ?_); clear hK89 K89
      refine pwp_seq_seq ?_
      refine pwp_seq_gops rfl fun K98 hK98 => ?_
      refine s_begin ?_
      refine s_e rfl (e_move (v := .sc _) rfl) ?_
      refine s_e rfl (e_eq rfl rfl) ?_
      refine s_e rfl (e_move (v := .sc _) rfl) ?_
      refine s_cases (fun hb99 => ?_) (fun hb99 => ?_)
      ·have hb99R := hb99; try simp only [zz] at hb99
       refine s_e rfl (e_move (v := .lit _ _ _) rfl) ?_
       refine s_step [3] (by simp) rfl rfl rfl rfl (e_loadHA (cs := Lorry.enc (x)) (n := 2) rfl hbx2 (by kernel_rfl) (by kernel_rfl) (by kernel_rfl) (by exact Nat.zero_lt_one) (by decide) rfl) trivial ?_
       refine s_call (args := [.lit _ _ _, .agg _]) [] (by intro k hk; simp [keysOf, Go.Pv.keyOf, Lorry.enc] at hk; try (first | (subst hk; simp; done) | (rcases hk with rfl | rfl <;> simp; done))) rfl rfl rfl rfl (.cons inn_lit (.cons (inn_agg (Lorry.pure _)) .nil)) (tooBigC its x (by omega)) ?_
       refine s_e rfl (e_pickT (v := .sc _) rfl rfl) ?_
       refine s_end (ds := [44, 45, 46]) (by kernel_rfl) (by kernel_rfl) (hK98 _ ?_); clear hK98 K98
       refine pwp_seq_cond rfl fun K100 hK100 => ⟨fun hb101 => ?_, fun hb101 => ?_⟩
       ·have hb101R := hb101; try simp only [zz] at hb101
        refine pwp_plain rfl fun K102 hK102 => ?_
        refine p_aS rfl ?_
        refine p_end (hK102 _ ?_); clear hK102 K102
        refine seq_norm (hK100 _ ?_); clear hK100 K100
        refine pwp_seq_seq ?_
        refine pwp_seq_plain rfl fun K103 hK103 => ?_
        refine p_mS rfl ?_
        refine p_e rfl (e_neT rfl rfl (by decide)) ?_
        refine p_end (hK103 _ ?_); clear hK103 K103
        refine pwp_seq_cond (t := true) rfl fun K104 hK104 => ⟨fun _ => ?_, nofun⟩
        refine pwp_seq_gops rfl fun K105 hK105 => ?_
        refine g_begin ?_
        refine g_mS rfl rfl ?_
        refine g_mS rfl rfl ?_
        refine g_e rfl (e_eq rfl rfl) ?_
        refine g_mS rfl rfl ?_
        refine g_cases (fun hb106 => ?_) (fun hb106 => ?_)
        ·have hb106R := hb106; try simp only [zz] at hb106
         refine g_e rfl (e_move (v := .nil) rfl) ?_
         refine g_e rfl (e_lenN rfl (by kernel_rfl)) ?_
         refine g_e rfl (e_eq rfl rfl) ?_
         refine g_pT rfl rfl rfl ?_
         refine g_aS rfl rfl ?_
         refine g_end (ds := [54, 55, 56]) rfl rfl (hK105 _ ?_); clear hK105 K105
         refine pwp_ret ?_
         refine ret_seq ?_
         refine end1 (v := .sc _) rfl ?_
         first
           | exact out_b rfl
           | exact out_b (by rw [loadE_1 (by assumption)]; simp)
           | exact out_b (by rw [loadE_2 (by omega) (by simp only [List.length_map] at *; omega)]; rfl)
           | exact out_b (by rw [loadE_3 (by omega) (by simp only [List.length_map] at *; omega) (by assumption)]; rfl)
           | (exfalso; rw [loadE_1 (by assumption)] at *; simp_all; done)
           | (exfalso; have := loadE_2 (its := its) (x := x) (by omega) (by simp only [List.length_map] at *; omega); omega)
           | (exfalso; have := loadE_3 (its := its) (x := x) (by omega) (by simp only [List.length_map] at *; omega) (by assumption); omega)
        ·have hb106R := hb106; try simp only [zz] at hb106
         iterate 3 refine g_skip rfl rfl rfl ?_
         refine g_pF rfl rfl rfl ?_
         refine g_aS rfl rfl ?_
         refine g_end (ds := [54, 55, 56]) rfl rfl (hK105 _ ?_); clear hK105 K105
         refine pwp_ret ?_
         refine ret_seq ?_
         refine end1 (v := .sc _) rfl ?_
         first
           | exact out_b rfl
           | exact out_b (by rw [loadE_1 (by assumption)]; simp)
           | exact out_b (by rw [loadE_2 (by omega) (by simp only [List.length_map] at *; omega)]; rfl)
           | exact out_b (by rw [loadE_3 (by omega) (by simp only [List.length_map] at *; omega) (by assumption)]; rfl)
           | (exfalso; rw [loadE_1 (by assumption)] at *; simp_all; done)
           | (exfalso; have := loadE_2 (its := its) (x := x) (by omega) (by simp only [List.length_map] at *; omega); omega)
           | (exfalso; have := loadE_3 (its := its) (x := x) (by omega) (by simp only [List.length_map] at *; omega) (by assumption); omega)
       ·have hb101R := hb101; try simp only [zz] at hb101
        refine pwp_skip ?_
        refine seq_norm (hK100 _ ?_); clear hK100 K100
        refine pwp_seq_seq ?_
        refine pwp_seq_plain rfl fun K107 hK107 => ?_
        refine p_mS rfl ?_
        refine p_e rfl (e_ne rfl rfl) ?_
        refine p_end (hK107 _ ?_); clear hK107 K107
        refine pwp_seq_cond rfl fun K108 hK108 => ⟨fun hb109 => ?_, fun hb109 => ?_⟩
        ·have hb109R := hb109; try simp only [zz] at hb109
         refine pwp_seq_gops rfl fun K110 hK110 => ?_
         refine g_begin ?_
         refine g_mS rfl rfl ?_
         refine g_mS rfl rfl ?_
         refine g_e rfl (e_eq rfl rfl) ?_
         refine g_mS rfl rfl ?_
         refine g_cases (fun hb111 => ?_) (fun hb111 => ?_)
         ·have hb111R := hb111; try simp only [zz] at hb111
          refine g_e rfl (e_move (v := .nil) rfl) ?_
          refine g_e rfl (e_lenN rfl (by kernel_rfl)) ?_
          refine g_e rfl (e_eq rfl rfl) ?_
          refine g_pT rfl rfl rfl ?_
          refine g_aS rfl rfl ?_
          refine g_end (ds := [54, 55, 56]) rfl rfl (hK110 _ ?_); clear hK110 K110
          refine pwp_ret ?_
          refine ret_seq ?_
          refine end1 (v := .sc _) rfl ?_
          first
            | exact out_b rfl
            | exact out_b (by rw [loadE_1 (by assumption)]; simp)
            | exact out_b (by rw [loadE_2 (by omega) (by simp only [List.length_map] at *; omega)]; rfl)
            | exact out_b (by rw [loadE_3 (by omega) (by simp only [List.length_map] at *; omega) (by assumption)]; rfl)
            | (exfalso; rw [loadE_1 (by assumption)] at *; simp_all; done)
            | (exfalso; have := loadE_2 (its := its) (x := x) (by omega) (by simp only [List.length_map] at *; omega); omega)
            | (exfalso; have := loadE_3 (its := its) (x := x) (by omega) (by simp only [List.length_map] at *; omega) (by assumption); omega)
         ·have hb111R := hb111; try simp only [zz] at hb111
          iterate 3 refine g_skip rfl rfl rfl ?_
          refine g_pF rfl rfl rfl ?_
          refine g_aS rfl rfl ?_
          refine g_end (ds := [54, 55, 56]) rfl rfl (hK110 _ ?_); clear hK110 K110
          refine pwp_ret ?_
          refine ret_seq ?_
          refine end1 (v := .sc _) rfl ?_
          first
            | exact out_b rfl
            | exact out_b (by rw [loadE_1 (by assumption)]; simp)
            | exact out_b (by rw [loadE_2 (by omega) (by simp only [List.length_map] at *; omega)]; rfl)
            | exact out_b (by rw [loadE_3 (by omega) (by simp only [List.length_map] at *; omega) (by assumption)]; rfl)
            | (exfalso; rw [loadE_1 (by assumption)] at *; simp_all; done)
            | (exfalso; have := loadE_2 (its := its) (x := x) (by omega) (by simp only [List.length_map] at *; omega); omega)
            | (exfalso; have := loadE_3 (its := its) (x := x) (by omega) (by simp only [List.length_map] at *; omega) (by assumption); omega)
        ·have hb109R := hb109; try simp only [zz] at hb109
         refine pwp_skip ?_
         refine seq_norm (hK108 _ ?_); clear hK108 K108
         first | (exfalso; omega) | exact absurd (loadE_0 (by omega) (by simp only [List.length_map] at *; omega) (by first | assumption | (simp only [Bool.not_eq_true] at *; assumption))) hA
      ·have hb99R := hb99; try simp only [zz] at hb99
       refine s_skip rfl rfl rfl ?_
       refine s_skip rfl rfl rfl ?_
       refine s_nocall (args := [.dead, .dead]) [] (by intro k hk; simp [keysOf, Go.Pv.keyOf] at hk) rfl rfl rfl ?_
       refine s_e rfl (e_pickF (v := .sc _) rfl rfl) ?_
       refine s_end (ds := [44, 45, 46]) (by kernel_rfl) (by kernel_rfl) (hK98 _ ?_); clear hK98 K98
       refine pwp_seq_cond (t := false) rfl fun K112 hK112 => ⟨nofun, fun _ => ?_⟩
       refine pwp_skip ?_
       refine seq_norm (hK112 _ ?_); clear hK112 K112
       refine pwp_seq_seq ?_
       refine pwp_seq_plain rfl fun K113 hK113 => ?_
       refine p_mS rfl ?_
       refine p_e rfl (e_ne rfl rfl) ?_
       refine p_end (hK113 _ ?_); clear hK113 K113
       refine pwp_seq_cond rfl fun K114 hK114 => ⟨fun hb115 => ?_, fun hb115 => ?_⟩
       ·have hb115R := hb115; try simp only [zz] at hb115
        refine pwp_seq_gops rfl fun K116 hK116 => ?_
        refine g_begin ?_
        refine g_mS rfl rfl ?_
        refine g_mS rfl rfl ?_
        refine g_e rfl (e_eq rfl rfl) ?_
        refine g_mS rfl rfl ?_
        refine g_cases (fun hb117 => ?_) (fun hb117 => ?_)
        ·have hb117R := hb117; try simp only [zz] at hb117
         refine g_e rfl (e_move (v := .nil) rfl) ?_
         refine g_e rfl (e_lenN rfl (by kernel_rfl)) ?_
         refine g_e rfl (e_eq rfl rfl) ?_
         refine g_pT rfl rfl rfl ?_
         refine g_aS rfl rfl ?_
         refine g_end (ds := [54, 55, 56]) rfl rfl (hK116 _ ?_); clear hK116 K116
         refine pwp_ret ?_
         refine ret_seq ?_
         refine end1 (v := .sc _) rfl ?_
         first
           | exact out_b rfl
           | exact out_b (by rw [loadE_1 (by assumption)]; simp)
           | exact out_b (by rw [loadE_2 (by omega) (by simp only [List.length_map] at *; omega)]; rfl)
           | exact out_b (by rw [loadE_3 (by omega) (by simp only [List.length_map] at *; omega) (by assumption)]; rfl)
           | (exfalso; rw [loadE_1 (by assumption)] at *; simp_all; done)
           | (exfalso; have := loadE_2 (its := its) (x := x) (by omega) (by simp only [List.length_map] at *; omega); omega)
           | (exfalso; have := loadE_3 (its := its) (x := x) (by omega) (by simp only [List.length_map] at *; omega) (by assumption); omega)
        ·have hb117R := hb117; try simp only [zz] at hb117
         iterate 3 refine g_skip rfl rfl rfl ?_
         refine g_pF rfl rfl rfl ?_
         refine g_aS rfl rfl ?_
         refine g_end (ds := [54, 55, 56]) rfl rfl (hK116 _ ?_); clear hK116 K116
         refine pwp_ret ?_
         refine ret_seq ?_
         refine end1 (v := .sc _) rfl ?_
         first
           | exact out_b rfl
           | exact out_b (by rw [loadE_1 (by assumption)]; simp)
           | exact out_b (by rw [loadE_2 (by omega) (by simp only [List.length_map] at *; omega)]; rfl)
           | exact out_b (by rw [loadE_3 (by omega) (by simp only [List.length_map] at *; omega) (by assumption)]; rfl)
           | (exfalso; rw [loadE_1 (by assumption)] at *; simp_all; done)
           | (exfalso; have := loadE_2 (its := its) (x := x) (by omega) (by simp only [List.length_map] at *; omega); omega)
           | (exfalso; have := loadE_3 (its := its) (x := x) (by omega) (by simp only [List.length_map] at *; omega) (by assumption); omega)
       ·have hb115R := hb115; try simp only [zz] at hb115
        refine pwp_skip ?_
        refine seq_norm (hK114 _ ?_); clear hK114 K114
        first | (exfalso; omega) | exact absurd (loadE_0 (by omega) (by simp only [List.length_map] at *; omega) (by first | assumption | (simp only [Bool.not_eq_true] at *; assumption))) hA
    ·have hb88R := hb88; try simp only [zz] at hb88
     iterate 3 refine g_skip rfl rfl rfl ?_
     refine g_pF rfl rfl rfl ?_
     refine g_end (ds := [37, 38, 39]) rfl rfl (hK87 _ ?_); clear hK87 K87
     refine pwp_seq_cond (t := false) rfl fun K118 hK118 => ⟨nofun, fun _ => ?_⟩
     refine pwp_skip ?_
     refine seq_norm (hK118 _ ?_); clear hK118 K118
     refine pwp_seq_seq ?_
     refine pwp_seq_gops rfl fun K119 hK119 => ?_
     refine s_begin ?_
     refine s_e rfl (e_move (v := .sc _) rfl) ?_
     refine s_e rfl (e_eq rfl rfl) ?_
     refine s_e rfl (e_move (v := .sc _) rfl) ?_
     refine s_cases (fun hb120 => ?_) (fun hb120 => ?_)
     ·have hb120R := hb120; try simp only [zz] at hb120
      refine s_e rfl (e_move (v := .lit _ _ _) rfl) ?_
      refine s_step [3] (by simp) rfl rfl rfl rfl (e_loadHA (cs := Lorry.enc (x)) (n := 2) rfl hbx2 (by kernel_rfl) (by kernel_rfl) (by kernel_rfl) (by exact Nat.zero_lt_one) (by decide) rfl) trivial ?_
      refine s_call (args := [.lit _ _ _, .agg _]) [] (by intro k hk; simp [keysOf, Go.Pv.keyOf, Lorry.enc] at hk; try (first | (subst hk; simp; done) | (rcases hk with rfl | rfl <;> simp; done))) rfl rfl rfl rfl (.cons inn_lit (.cons (inn_agg (Lorry.pure _)) .nil)) (tooBigC its x (by omega)) ?_
      refine s_e rfl (e_pickT (v := .sc _) rfl rfl) ?_
      refine s_end (ds := [44, 45, 46]) (by kernel_rfl) (by kernel_rfl) (hK119 _ ?_); clear hK119 K119
      refine pwp_seq_cond rfl fun K121 hK121 => ⟨fun hb122 => ?_, fun hb122 => ?_⟩
      ·have hb122R := hb122; try simp only [zz] at hb122
       refine pwp_plain rfl fun K123 hK123 => ?_
       refine p_aS rfl ?_
       refine p_end (hK123 _ ?_); clear hK123 K123
       refine seq_norm (hK121 _ ?_); clear hK121 K121
       refine pwp_seq_seq ?_
       refine pwp_seq_plain rfl fun K124 hK124 => ?_
       refine p_mS rfl ?_
       refine p_e rfl (e_neT rfl rfl (by decide)) ?_
       refine p_end (hK124 _ ?_); clear hK124 K124
       refine pwp_seq_cond (t := true) rfl fun K125 hK125 => ⟨fun _ => ?_, nofun⟩
       refine pwp_seq_gops rfl fun K126 hK126 => ?_
       refine g_begin ?_
       refine g_mS rfl rfl ?_
       refine g_mS rfl rfl ?_
       refine g_e rfl (e_eq rfl rfl) ?_
       refine g_mS rfl rfl ?_
       refine g_cases (fun hb127 => ?_) (fun hb127 => ?_)
       ·have hb127R := hb127; try simp only [zz] at hb127
        refine g_e rfl (e_move (v := .nil) rfl) ?_
        refine g_e rfl (e_lenN rfl (by kernel_rfl)) ?_
        refine g_e rfl (e_eq rfl rfl) ?_
        refine g_pT rfl rfl rfl ?_
        refine g_aS rfl rfl ?_
        refine g_end (ds := [54, 55, 56]) rfl rfl (hK126 _ ?_); clear hK126 K126
        refine pwp_ret ?_
        refine ret_seq ?_
        refine end1 (v := .sc _) rfl ?_
        first
          | exact out_b rfl
          | exact out_b (by rw [loadE_1 (by assumption)]; simp)
          | exact out_b (by rw [loadE_2 (by omega) (by simp only [List.length_map] at *; omega)]; rfl)
          | exact out_b (by rw [loadE_3 (by omega) (by simp only [List.length_map] at *; omega) (by assumption)]; rfl)
          | (exfalso; rw [loadE_1 (by assumption)] at *; simp_all; done)
          | (exfalso; have := loadE_2 (its := its) (x := x) (by omega) (by simp only [List.length_map] at *; omega); omega)
          | (exfalso; have := loadE_3 (its := its) (x := x) (by omega) (by simp only [List.length_map] at *; omega) (by assumption); omega)
       ·have hb127R := hb127; try simp only [zz] at hb127
        iterate 3 refine g_skip rfl rfl rfl ?_
        refine g_pF rfl rfl rfl ?_
        refine g_aS rfl rfl ?_
        refine g_end (ds := [54, 55, 56]) rfl rfl (hK126 _ ?_); clear hK126 K126
        refine pwp_ret ?_
        refine ret_seq ?_
        refine end1 (v := .sc _) rfl ?_
        first
          | exact out_b rfl
          | exact out_b (by rw [loadE_1 (by assumption)]; simp)
          | exact out_b (by rw [loadE_2 (by omega) (by simp only [List.length_map] at *; omega)]; rfl)
          | exact out_b (by rw [loadE_3 (by omega) (by simp only [List.length_map] at *; omega) (by assumption)]; rfl)
          | (exfalso; rw [loadE_1 (by assumption)] at *; simp_all; done)
          | (exfalso; have := loadE_2 (its := its) (x := x) (by omega) (by simp only [List.length_map] at *; omega); omega)
          | (exfalso; have := loadE_3 (its := its) (x := x) (by omega) (by simp only [List.length_map] at *; omega) (by assumption); omega)
      ·have hb122R := hb122; try simp only [zz] at hb122
       refine pwp_skip ?_
       refine seq_norm (hK121 _ ?_); clear hK121 K121
       refine pwp_seq_seq ?_
       refine pwp_seq_plain rfl fun K128 hK128 => ?_
       refine p_mS rfl ?_
       refine p_e rfl (e_ne rfl rfl) ?_
       refine p_end (hK128 _ ?_); clear hK128 K128
       refine pwp_seq_cond rfl fun K129 hK129 => ⟨fun hb130 => ?_, fun hb130 => ?_⟩
       ·have hb130R := hb130; try simp only [zz] at hb130
        refine pwp_seq_gops rfl fun K131 hK131 => ?_
        refine g_begin ?_
        refine g_mS rfl rfl ?_
        refine g_mS rfl rfl ?_
        refine g_e rfl (e_eq rfl rfl) ?_
        refine g_mS rfl rfl ?_
        refine g_cases (fun hb132 => ?_) (fun hb132 => ?_)
        ·have hb132R := hb132; try simp only [zz] at hb132
         refine g_e rfl (e_move (v := .nil) rfl) ?_
         refine g_e rfl (e_lenN rfl (by kernel_rfl)) ?_
         refine g_e rfl (e_eq rfl rfl) ?_
         refine g_pT rfl rfl rfl ?_
         refine g_aS rfl rfl ?_
         refine g_end (ds := [54, 55, 56]) rfl rfl (hK131 _ ?_); clear hK131 K131
         refine pwp_ret ?_
         refine ret_seq ?_
         refine end1 (v := .sc _) rfl ?_
         first
           | exact out_b rfl
           | exact out_b (by rw [loadE_1 (by assumption)]; simp)
           | exact out_b (by rw [loadE_2 (by omega) (by simp only [List.length_map] at *; omega)]; rfl)
           | exact out_b (by rw [loadE_3 (by omega) (by simp only [List.length_map] at *; omega) (by assumption)]; rfl)
           | (exfalso; rw [loadE_1 (by assumption)] at *; simp_all; done)
           | (exfalso; have := loadE_2 (its := its) (x := x) (by omega) (by simp only [List.length_map] at *; omega); omega)
           | (exfalso; have := loadE_3 (its := its) (x := x) (by omega) (by simp only [List.length_map] at *; omega) (by assumption); omega)
        ·have hb132R := hb132; try simp only [zz] at hb132
         iterate 3 refine g_skip rfl rfl rfl ?_
         refine g_pF rfl rfl rfl ?_
         refine g_aS rfl rfl ?_
         refine g_end (ds := [54, 55, 56]) rfl rfl (hK131 _ ?_); clear hK131 K131
         refine pwp_ret ?_
         refine ret_seq ?_
         refine end1 (v := .sc _) rfl ?_
         first
           | exact out_b rfl
           | exact out_b (by rw [loadE_1 (by assumption)]; simp)
           | exact out_b (by rw [loadE_2 (by omega) (by simp only [List.length_map] at *; omega)]; rfl)
           | exact out_b (by rw [loadE_3 (by omega) (by simp only [List.length_map] at *; omega) (by assumption)]; rfl)
           | (exfalso; rw [loadE_1 (by assumption)] at *; simp_all; done)
           | (exfalso; have := loadE_2 (its := its) (x := x) (by omega) (by simp only [List.length_map] at *; omega); omega)
           | (exfalso; have := loadE_3 (its := its) (x := x) (by omega) (by simp only [List.length_map] at *; omega) (by assumption); omega)
       ·have hb130R := hb130; try simp only [zz] at hb130
        refine pwp_skip ?_
        refine seq_norm (hK129 _ ?_); clear hK129 K129
        first | (exfalso; omega) | exact absurd (loadE_0 (by omega) (by simp only [List.length_map] at *; omega) (by first | assumption | (simp only [Bool.not_eq_true] at *; assumption))) hA
     ·have hb120R := hb120; try simp only [zz] at hb120
      refine s_skip rfl rfl rfl ?_
      refine s_skip rfl rfl rfl ?_
      refine s_nocall (args := [.dead, .dead]) [] (by intro k hk; simp [keysOf, Go.Pv.keyOf] at hk) rfl rfl rfl ?_
      refine s_e rfl (e_pickF (v := .sc _) rfl rfl) ?_
      refine s_end (ds := [44, 45, 46]) (by kernel_rfl) (by kernel_rfl) (hK119 _ ?_); clear hK119 K119
      refine pwp_seq_cond (t := false) rfl fun K133 hK133 => ⟨nofun, fun _ => ?_⟩
      refine pwp_skip ?_
      refine seq_norm (hK133 _ ?_); clear hK133 K133
      refine pwp_seq_seq ?_
      refine pwp_seq_plain rfl fun K134 hK134 => ?_
      refine p_mS rfl ?_
      refine p_e rfl (e_ne rfl rfl) ?_
      refine p_end (hK134 _ ?_); clear hK134 K134
      refine pwp_seq_cond rfl fun K135 hK135 => ⟨fun hb136 => ?_, fun hb136 => ?_⟩
      ·have hb136R := hb136; try simp only [zz] at hb136
       refine pwp_seq_gops rfl fun K137 hK137 => ?_
       refine g_begin ?_
       refine g_mS rfl rfl ?_
       refine g_mS rfl rfl ?_
       refine g_e rfl (e_eq rfl rfl) ?_
       refine g_mS rfl rfl ?_
       refine g_cases (fun hb138 => ?_) (fun hb138 => ?_)
       ·have hb138R := hb138; try simp only [zz] at hb138
        refine g_e rfl (e_move (v := .nil) rfl) ?_
        refine g_e rfl (e_lenN rfl (by kernel_rfl)) ?_
        refine g_e rfl (e_eq rfl rfl) ?_
        refine g_pT rfl rfl rfl ?_
        refine g_aS rfl rfl ?_
        refine g_end (ds := [54, 55, 56]) rfl rfl (hK137 _ ?_); clear hK137 K137
        refine pwp_ret ?_
        refine ret_seq ?_
        refine end1 (v := .sc _) rfl ?_
        first
          | exact out_b rfl
          | exact out_b (by rw [loadE_1 (by assumption)]; simp)
          | exact out_b (by rw [loadE_2 (by omega) (by simp only [List.length_map] at *; omega)]; rfl)
          | exact out_b (by rw [loadE_3 (by omega) (by simp only [List.length_map] at *; omega) (by assumption)]; rfl)
          | (exfalso; rw [loadE_1 (by assumption)] at *; simp_all; done)
          | (exfalso; have := loadE_2 (its := its) (x := x) (by omega) (by simp only [List.length_map] at *; omega); omega)
          | (exfalso; have := loadE_3 (its := its) (x := x) (by omega) (by simp only [List.length_map] at *; omega) (by assumption); omega)
       ·have hb138R := hb138; try simp only [zz] at hb138
        iterate 3 refine g_skip rfl rfl rfl ?_
        refine g_pF rfl rfl rfl ?_
        refine g_aS rfl rfl ?_
        refine g_end (ds := [54, 55, 56]) rfl rfl (hK137 _ ?_); clear hK137 K137
        refine pwp_ret ?_
        refine ret_seq ?_
        refine end1 (v := .sc _) rfl ?_
        first
          | exact out_b rfl
          | exact out_b (by rw [loadE_1 (by assumption)]; simp)
          | exact out_b (by rw [loadE_2 (by omega) (by simp only [List.length_map] at *; omega)]; rfl)
          | exact out_b (by rw [loadE_3 (by omega) (by simp only [List.length_map] at *; omega) (by assumption)]; rfl)
          | (exfalso; rw [loadE_1 (by assumption)] at *; simp_all; done)
          | (exfalso; have := loadE_2 (its := its) (x := x) (by omega) (by simp only [List.length_map] at *; omega); omega)
          | (exfalso; have := loadE_3 (its := its) (x := x) (by omega) (by simp only [List.length_map] at *; omega) (by assumption); omega)
      ·have hb136R := hb136; try simp only [zz] at hb136
       refine pwp_skip ?_
       refine seq_norm (hK135 _ ?_); clear hK135 K135
       first | (exfalso; omega) | exact absurd (loadE_0 (by omega) (by simp only [List.length_map] at *; omega) (by first | assumption | (simp only [Bool.not_eq_true] at *; assumption))) hA
   ·skip
    obtain ⟨hz, h12, hb⟩ := loadE_inv hLE
    have hit := itemsE_ok hz
    have hm1 : ∀ y ∈ its, 0 ≤ y.mass ∧ y.mass ≤ 100000000 := fun y hy => (hit.2.1 y hy).1
    have hx1 : 0 ≤ x.mass ∧ x.mass ≤ 100000000 := by omega
    obtain ⟨n, hnn, hn1, hn2⟩ := least_ex (its := its) (x := x) h12
    have hG3 : (0 : Int) = (n : Int) := by rw [show n = 0 from Nat.eq_zero_of_not_pos fun q => by have := hn2 0 q; rw [hE, fitsV] at this; cases this]; rfl
    have hG1 : loadsE its x [] = 0 := by rw [hE] at hz ⊢; exact loads_nil hz
    have hG2 : lorW its x ≤ 0 := by rw [hE] at hz ⊢; rw [lor_nil hz (by omega)]; decide
    refine p_e rfl (e_move (v := .tup _) rfl) ?_
    refine p_e rfl (e_ext (v := .nil) rfl (by simp) rfl) ?_
    refine p_e rfl (e_ext (v := .sc _) rfl (by simp) rfl) ?_
    refine p_e rfl (e_assign (v := .nil) rfl) ?_
    refine p_aS rfl ?_
    refine p_end (hK85 _ ?_); clear hK85 K85
    refine pwp_seq_plain rfl fun K139 hK139 => ?_
    refine p_e rfl (e_move (v := .lit _ _ _) rfl) ?_
    refine p_e rfl (e_loadHA (cs := Lorry.enc (x)) (n := 2) rfl hbx2 (by kernel_rfl) (by kernel_rfl) (by kernel_rfl) (by exact Nat.zero_lt_one) (by decide) rfl) ?_
    refine p_call rfl (.cons inn_lit (.cons (inn_agg (Lorry.pure _)) .nil)) (refItems its x (by omega) hs) ?_
    refine p_aS rfl ?_
    refine p_end (hK139 _ ?_); clear hK139 K139
    refine pwp_seq_seq ?_
    refine pwp_seq_gops rfl fun K140 hK140 => ?_
    refine g_begin ?_
    refine g_mS rfl rfl ?_
    refine g_e rfl (e_eqT rfl rfl hz) ?_
    refine g_mS rfl rfl ?_
    refine g_e rfl (e_move (v := .lit _ _ _) rfl) ?_
    refine g_e rfl (e_len rfl (by kernel_rfl)) ?_
    refine g_e rfl (e_gtF rfl rfl (by simp only [List.length_map]; omega)) ?_
    refine g_pT rfl rfl rfl ?_
    refine g_end (ds := [37, 38, 39]) rfl rfl (hK140 _ ?_); clear hK140 K140
    refine pwp_seq_cond (t := false) rfl fun K141 hK141 => ⟨nofun, fun _ => ?_⟩
    refine pwp_skip ?_
    refine seq_norm (hK141 _ ?_); clear hK141 K141
    refine pwp_seq_seq ?_
    refine pwp_seq_gops rfl fun K142 hK142 => ?_
    refine s_begin ?_
    refine s_e rfl (e_move (v := .sc _) rfl) ?_
    refine s_e rfl (e_eqT rfl rfl hz) ?_
    refine s_e rfl (e_move (v := .sc _) rfl) ?_
    refine s_e rfl (e_move (v := .lit _ _ _) rfl) ?_
    refine s_step [3] (by simp) rfl rfl rfl rfl (e_loadHA (cs := Lorry.enc (x)) (n := 2) rfl hbx2 (by kernel_rfl) (by kernel_rfl) (by kernel_rfl) (by exact Nat.zero_lt_one) (by decide) rfl) trivial ?_
    refine s_call (args := [.lit _ _ _, .agg _]) [] (by intro k hk; simp [keysOf, Go.Pv.keyOf, Lorry.enc] at hk; try (first | (subst hk; simp; done) | (rcases hk with rfl | rfl <;> simp; done))) rfl rfl rfl rfl (.cons inn_lit (.cons (inn_agg (Lorry.pure _)) .nil)) (tooBigF its x (by omega) hb) ?_
    refine s_e rfl (e_pickT (v := .sc _) rfl rfl) ?_
    refine s_end (ds := [44, 45, 46]) (by kernel_rfl) (by kernel_rfl) (hK142 _ ?_); clear hK142 K142
    refine pwp_seq_cond (t := false) rfl fun K143 hK143 => ⟨nofun, fun _ => ?_⟩
    refine pwp_skip ?_
    refine seq_norm (hK143 _ ?_); clear hK143 K143
    refine pwp_seq_seq ?_
    refine pwp_seq_plain rfl fun K144 hK144 => ?_
    refine p_mS rfl ?_
    refine p_e rfl (e_neF rfl rfl (fun q => q hz)) ?_
    refine p_end (hK144 _ ?_); clear hK144 K144
    refine pwp_seq_cond (t := false) rfl fun K145 hK145 => ⟨nofun, fun _ => ?_⟩
    refine pwp_skip ?_
    refine seq_norm (hK145 _ ?_); clear hK145 K145
    refine pwp_seq_plain rfl fun K146 hK146 => ?_
    refine p_e rfl (e_move (v := .lit _ _ _) rfl) ?_
    refine p_e rfl (e_loadHA (cs := Lorry.enc (x)) (n := 2) rfl hbx2 (by kernel_rfl) (by kernel_rfl) (by kernel_rfl) (by exact Nat.zero_lt_one) (by decide) rfl) ?_
    refine p_call rfl (.cons inn_lit (.cons (inn_agg (Lorry.pure _)) .nil)) (LeastLorries its x (by omega) hs) ?_
    refine p_e rfl (e_move (v := .tup _) rfl) ?_
    refine p_e rfl (e_ext (v := .sc _) rfl (by simp) rfl) ?_
    refine p_e rfl (e_ext (v := .sc _) rfl (by simp) rfl) ?_
    refine p_aS rfl ?_
    refine p_aS rfl ?_
    refine p_end (hK146 _ ?_); clear hK146 K146
    refine pwp_seq_gops rfl fun K147 hK147 => ?_
    refine s_begin ?_
    refine s_e rfl (e_move (v := .sc _) rfl) ?_
    refine s_e rfl (e_eqT rfl rfl rfl) ?_
    refine s_e rfl (e_move (v := .sc _) rfl) ?_
    refine s_e rfl (e_move (v := .sc _) rfl) ?_
    refine s_e rfl (e_eqT rfl rfl hz) ?_
    refine s_e rfl (e_pickT (v := .sc _) rfl rfl) ?_
    refine s_e rfl (e_move (v := .sc _) rfl) ?_
    refine s_e rfl (e_move (v := .nil) rfl) ?_
    refine s_e rfl (e_lenN rfl (by kernel_rfl)) ?_
    refine s_e rfl (e_move (v := .lit _ _ _) rfl) ?_
    refine s_step [3] (by simp) rfl rfl rfl rfl (e_loadHA (cs := Lorry.enc (x)) (n := 2) rfl hbx2 (by kernel_rfl) (by kernel_rfl) (by kernel_rfl) (by exact Nat.zero_lt_one) (by decide) rfl) trivial ?_
    refine s_call (args := [.lit _ _ _, .agg _]) [] (by intro k hk; simp [keysOf, Go.Pv.keyOf, Lorry.enc] at hk; try (first | (subst hk; simp; done) | (rcases hk with rfl | rfl <;> simp; done))) rfl rfl rfl rfl (.cons inn_lit (.cons (inn_agg (Lorry.pure _)) .nil)) (leastLC its x (by omega) hm1 hx1 n hnn hn1 hn2) ?_
    refine s_e rfl (e_eqT rfl rfl hG3) ?_
    refine s_e rfl (e_pickT (v := .sc _) rfl rfl) ?_
    refine s_e rfl (e_move (v := .sc _) rfl) ?_
    refine s_e rfl (e_move (v := .nil) rfl) ?_
    refine s_e rfl (e_lenN rfl (by kernel_rfl)) ?_
    refine s_e rfl (e_move (v := .sc _) rfl) ?_
    refine s_e rfl (e_geT rfl rfl hG2) ?_
    refine s_e rfl (e_pickT (v := .sc _) rfl rfl) ?_
    refine s_e rfl (e_move (v := .sc _) rfl) ?_
    refine s_e rfl (e_move (v := .lit _ _ _) rfl) ?_
    refine s_step [3] (by simp) rfl rfl rfl rfl (e_loadHA (cs := Lorry.enc (x)) (n := 2) rfl hbx2 (by kernel_rfl) (by kernel_rfl) (by kernel_rfl) (by exact Nat.zero_lt_one) (by decide) rfl) trivial ?_
    refine s_e rfl (e_move (v := .nil) rfl) ?_
    refine s_call (args := [.lit _ _ _, .agg _, .nil]) [] (by intro k hk; simp [keysOf, Go.Pv.keyOf, Lorry.enc] at hk) rfl rfl rfl rfl (.cons inn_lit (.cons (inn_agg (Lorry.pure _)) (.cons inn_nil .nil))) (refLoads its x [] (by omega) (by simp) hs (by simp)) ?_
    refine s_e rfl (e_eqT rfl rfl hG1) ?_
    refine s_e rfl (e_pickT (v := .sc _) rfl rfl) ?_
    refine s_e rfl (e_move (v := .sc _) rfl) ?_
    refine s_e rfl (e_move (v := .lit _ _ _) rfl) ?_
    refine s_step [3] (by simp) rfl rfl rfl rfl (e_loadHA (cs := Lorry.enc (x)) (n := 2) rfl hbx2 (by kernel_rfl) (by kernel_rfl) (by kernel_rfl) (by exact Nat.zero_lt_one) (by decide) rfl) trivial ?_
    refine s_e rfl (e_move (v := .nil) rfl) ?_
    refine s_call (args := [.lit _ _ _, .agg _, .nil]) [] (by intro k hk; simp [keysOf, Go.Pv.keyOf, Lorry.enc] at hk) rfl rfl rfl rfl (.cons inn_lit (.cons (inn_agg (Lorry.pure _)) (.cons inn_nil .nil))) (CheckLoads its x [] (by omega) (by simp) hs (by simp)) ?_
    refine s_e rfl (e_eqT rfl rfl hG1) ?_
    refine s_e rfl (e_pickT (v := .sc _) rfl rfl) ?_
    refine s_e rfl (e_assign (v := .sc _) rfl) ?_
    refine s_end (ds := [67, 68, 71, 72, 73, 74, 75, 76, 79, 80, 81, 82, 85, 86, 87, 88, 89, 92, 93, 94, 95, 96]) (by kernel_rfl) (by kernel_rfl) (hK147 _ ?_); clear hK147 K147
    refine pwp_ret ?_
    refine end1 (v := .sc _) rfl ?_
    first
      | exact out_b rfl
      | exact out_b (by rw [loadE_1 (by assumption)]; simp)
      | exact out_b (by rw [loadE_2 (by omega) (by simp only [List.length_map] at *; omega)]; rfl)
      | exact out_b (by rw [loadE_3 (by omega) (by simp only [List.length_map] at *; omega) (by assumption)]; rfl)
      | (exfalso; rw [loadE_1 (by assumption)] at *; simp_all; done)
      | (exfalso; have := loadE_2 (its := its) (x := x) (by omega) (by simp only [List.length_map] at *; omega); omega)
      | (exfalso; have := loadE_3 (its := its) (x := x) (by omega) (by simp only [List.length_map] at *; omega) (by assumption); omega)
   ·skip
    obtain ⟨hz, h12, hb⟩ := loadE_inv hLE
    have hit := itemsE_ok hz
    have hm1 : ∀ y ∈ its, 0 ≤ y.mass ∧ y.mass ≤ 100000000 := fun y hy => (hit.2.1 y hy).1
    have hx1 : 0 ≤ x.mass ∧ x.mass ≤ 100000000 := by omega
    obtain ⟨n, hnn, hn1, hn2⟩ := least_ex (its := its) (x := x) h12
    have hms2 := (load_pre hz hb hl6 (fun e => hne (List.eq_nil_of_length_eq_zero e))); obtain ⟨_, _, _, _, _, hits⟩ := hms2
    have hG4 := lor_least hl6 hne hx1.1 hits hn1 hn2; have hG5 := hLd.2.1
    have hG3 : ((vs.length : Nat) : Int) = (n : Int) := by have := hGd.2.2.1; omega
    have hG2 : lorW its x ≤ ((vs.length : Nat) : Int) := by have := hGd.2.1; rw [lorW, if_pos hz]; omega
    have hG1 := hGd.1; have hG7 := hGd.2.2.2.1; have hG8 := hGd.2.2.2.2
    obtain ⟨ks, hks, hkx⟩ := hLd.x
    refine p_e rfl (e_move (v := .tup _) rfl) ?_
    refine p_e rfl (e_ext (v := .ref _ _ _ _) rfl (by simp) rfl) ?_
    refine p_e rfl (e_ext (v := .sc _) rfl (by simp) rfl) ?_
    refine p_e rfl (e_assign (v := .ref _ _ _ _) rfl) ?_
    refine p_aS rfl ?_
    refine p_end (hK85 _ ?_); clear hK85 K85
    refine pwp_seq_plain rfl fun K148 hK148 => ?_
    refine p_e rfl (e_move (v := .lit _ _ _) rfl) ?_
    refine p_e rfl (e_loadHA (cs := Lorry.enc (x)) (n := 2) rfl hbx2 (by kernel_rfl) (by kernel_rfl) (by kernel_rfl) (by exact Nat.zero_lt_one) (by decide) rfl) ?_
    refine p_call rfl (.cons inn_lit (.cons (inn_agg (Lorry.pure _)) .nil)) (refItems its x (by omega) hs) ?_
    refine p_aS rfl ?_
    refine p_end (hK148 _ ?_); clear hK148 K148
    refine pwp_seq_seq ?_
    refine pwp_seq_gops rfl fun K149 hK149 => ?_
    refine g_begin ?_
    refine g_mS rfl rfl ?_
    refine g_e rfl (e_eqT rfl rfl hz) ?_
    refine g_mS rfl rfl ?_
    refine g_e rfl (e_move (v := .lit _ _ _) rfl) ?_
    refine g_e rfl (e_len rfl (by kernel_rfl)) ?_
    refine g_e rfl (e_gtF rfl rfl (by simp only [List.length_map]; omega)) ?_
    refine g_pT rfl rfl rfl ?_
    refine g_end (ds := [37, 38, 39]) rfl rfl (hK149 _ ?_); clear hK149 K149
    refine pwp_seq_cond (t := false) rfl fun K150 hK150 => ⟨nofun, fun _ => ?_⟩
    refine pwp_skip ?_
    refine seq_norm (hK150 _ ?_); clear hK150 K150
    refine pwp_seq_seq ?_
    refine pwp_seq_gops rfl fun K151 hK151 => ?_
    refine s_begin ?_
    refine s_e rfl (e_move (v := .sc _) rfl) ?_
    refine s_e rfl (e_eqT rfl rfl hz) ?_
    refine s_e rfl (e_move (v := .sc _) rfl) ?_
    refine s_e rfl (e_move (v := .lit _ _ _) rfl) ?_
    refine s_step [3] (by simp) rfl rfl rfl rfl (e_loadHA (cs := Lorry.enc (x)) (n := 2) rfl hbx2 (by kernel_rfl) (by kernel_rfl) (by kernel_rfl) (by exact Nat.zero_lt_one) (by decide) rfl) trivial ?_
    refine s_call (args := [.lit _ _ _, .agg _]) [] (by intro k hk; simp [keysOf, Go.Pv.keyOf, Lorry.enc] at hk; try (first | (subst hk; simp; done) | (rcases hk with rfl | rfl <;> simp; done))) rfl rfl rfl rfl (.cons inn_lit (.cons (inn_agg (Lorry.pure _)) .nil)) (tooBigF its x (by omega) hb) ?_
    refine s_e rfl (e_pickT (v := .sc _) rfl rfl) ?_
    refine s_end (ds := [44, 45, 46]) (by kernel_rfl) (by kernel_rfl) (hK151 _ ?_); clear hK151 K151
    refine pwp_seq_cond (t := false) rfl fun K152 hK152 => ⟨nofun, fun _ => ?_⟩
    refine pwp_skip ?_
    refine seq_norm (hK152 _ ?_); clear hK152 K152
    refine pwp_seq_seq ?_
    refine pwp_seq_plain rfl fun K153 hK153 => ?_
    refine p_mS rfl ?_
    refine p_e rfl (e_neF rfl rfl (fun q => q hz)) ?_
    refine p_end (hK153 _ ?_); clear hK153 K153
    refine pwp_seq_cond (t := false) rfl fun K154 hK154 => ⟨nofun, fun _ => ?_⟩
    refine pwp_skip ?_
    refine seq_norm (hK154 _ ?_); clear hK154 K154
    refine pwp_seq_plain rfl fun K155 hK155 => ?_
    refine p_e rfl (e_move (v := .lit _ _ _) rfl) ?_
    refine p_e rfl (e_loadHA (cs := Lorry.enc (x)) (n := 2) rfl hbx2 (by kernel_rfl) (by kernel_rfl) (by kernel_rfl) (by exact Nat.zero_lt_one) (by decide) rfl) ?_
    refine p_call rfl (.cons inn_lit (.cons (inn_agg (Lorry.pure _)) .nil)) (LeastLorries its x (by omega) hs) ?_
    refine p_e rfl (e_move (v := .tup _) rfl) ?_
    refine p_e rfl (e_ext (v := .sc _) rfl (by simp) rfl) ?_
    refine p_e rfl (e_ext (v := .sc _) rfl (by simp) rfl) ?_
    refine p_aS rfl ?_
    refine p_aS rfl ?_
    refine p_end (hK155 _ ?_); clear hK155 K155
    refine pwp_seq_gops rfl fun K156 hK156 => ?_
    refine s_begin ?_
    refine s_e rfl (e_move (v := .sc _) rfl) ?_
    refine s_e rfl (e_eqT rfl rfl rfl) ?_
    refine s_e rfl (e_move (v := .sc _) rfl) ?_
    refine s_e rfl (e_move (v := .sc _) rfl) ?_
    refine s_e rfl (e_eqT rfl rfl hz) ?_
    refine s_e rfl (e_pickT (v := .sc _) rfl rfl) ?_
    refine s_e rfl (e_move (v := .sc _) rfl) ?_
    refine s_e rfl (e_move (v := .ref _ _ _ _) rfl) ?_
    refine s_e rfl (e_lenR rfl (by kernel_rfl)) ?_
    refine s_e rfl (e_move (v := .lit _ _ _) rfl) ?_
    refine s_step [3] (by simp) rfl rfl rfl rfl (e_loadHA (cs := Lorry.enc (x)) (n := 2) rfl hbx2 (by kernel_rfl) (by kernel_rfl) (by kernel_rfl) (by exact Nat.zero_lt_one) (by decide) rfl) trivial ?_
    refine s_call (args := [.lit _ _ _, .agg _]) [] (by intro k hk; simp [keysOf, Go.Pv.keyOf, Lorry.enc] at hk; try (first | (subst hk; simp; done) | (rcases hk with rfl | rfl <;> simp; done))) rfl rfl rfl rfl (.cons inn_lit (.cons (inn_agg (Lorry.pure _)) .nil)) (leastLC its x (by omega) hm1 hx1 n hnn hn1 hn2) ?_
    refine s_e rfl (e_eqT rfl rfl hG3) ?_
    refine s_e rfl (e_pickT (v := .sc _) rfl rfl) ?_
    refine s_e rfl (e_move (v := .sc _) rfl) ?_
    refine s_e rfl (e_move (v := .ref _ _ _ _) rfl) ?_
    refine s_e rfl (e_lenR rfl (by kernel_rfl)) ?_
    refine s_e rfl (e_move (v := .sc _) rfl) ?_
    refine s_e rfl (e_geT rfl rfl hG2) ?_
    refine s_e rfl (e_pickT (v := .sc _) rfl rfl) ?_
    refine s_e rfl (e_move (v := .sc _) rfl) ?_
    refine s_e rfl (e_move (v := .lit _ _ _) rfl) ?_
    refine s_step [3] (by simp) rfl rfl rfl rfl (e_loadHA (cs := Lorry.enc (x)) (n := 2) rfl hbx2 (by kernel_rfl) (by kernel_rfl) (by kernel_rfl) (by exact Nat.zero_lt_one) (by decide) rfl) trivial ?_
    refine s_e rfl (e_move (v := .ref _ _ _ _) rfl) ?_
    refine s_callX (args := [.lit _ _ _, .agg _, .ref _ _ _ _]) [109, 140] hks rfl rfl rfl rfl (.cons (.base inn_lit (by intro k hk; simp [keysOf, Go.Pv.keyOf] at hk)) (.cons (.base (inn_agg (Lorry.pure _)) (by intro k hk; simp [keysOf, Go.Pv.keyOf, Lorry.enc] at hk)) (.cons hkx .nil))) (refLoads its x ls (by omega) (by omega) hs hG8) ?_
    refine s_e rfl (e_eqT rfl rfl hG1) ?_
    refine s_e rfl (e_pickT (v := .sc _) rfl rfl) ?_
    refine s_e rfl (e_move (v := .sc _) rfl) ?_
    refine s_e rfl (e_move (v := .lit _ _ _) rfl) ?_
    refine s_step [3] (by simp) rfl rfl rfl rfl (e_loadHA (cs := Lorry.enc (x)) (n := 2) rfl hbx2 (by kernel_rfl) (by kernel_rfl) (by kernel_rfl) (by exact Nat.zero_lt_one) (by decide) rfl) trivial ?_
    refine s_e rfl (e_move (v := .ref _ _ _ _) rfl) ?_
    refine s_callX (args := [.lit _ _ _, .agg _, .ref _ _ _ _]) [109, 140] hks rfl rfl rfl rfl (.cons (.base inn_lit (by intro k hk; simp [keysOf, Go.Pv.keyOf] at hk)) (.cons (.base (inn_agg (Lorry.pure _)) (by intro k hk; simp [keysOf, Go.Pv.keyOf, Lorry.enc] at hk)) (.cons hkx .nil))) (CheckLoads its x ls (by omega) (by omega) hs hG8) ?_
    refine s_e rfl (e_eqT rfl rfl hG1) ?_
    refine s_e rfl (e_pickT (v := .sc _) rfl rfl) ?_
    refine s_e rfl (e_assign (v := .sc _) rfl) ?_
    refine s_end (ds := [67, 68, 71, 72, 73, 74, 75, 76, 79, 80, 81, 82, 85, 86, 87, 88, 89, 92, 93, 94, 95, 96]) (by kernel_rfl) (by kernel_rfl) (hK156 _ ?_); clear hK156 K156
    refine pwp_ret ?_
    refine end1 (v := .sc _) rfl ?_
    first
      | exact out_b rfl
      | exact out_b (by rw [loadE_1 (by assumption)]; simp)
      | exact out_b (by rw [loadE_2 (by omega) (by simp only [List.length_map] at *; omega)]; rfl)
      | exact out_b (by rw [loadE_3 (by omega) (by simp only [List.length_map] at *; omega) (by assumption)]; rfl)
      | (exfalso; rw [loadE_1 (by assumption)] at *; simp_all; done)
      | (exfalso; have := loadE_2 (its := its) (x := x) (by omega) (by simp only [List.length_map] at *; omega); omega)
      | (exfalso; have := loadE_3 (its := its) (x := x) (by omega) (by simp only [List.length_map] at *; omega) (by assumption); omega)

end Go.Proofs.Ytigdmkhdmbbfiaa
