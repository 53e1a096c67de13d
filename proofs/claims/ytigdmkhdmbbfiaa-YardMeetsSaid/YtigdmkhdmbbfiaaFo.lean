import Derived.Test.YtigdmkhdmbbfiaaFn
import Derived.Test.YtigdmkhdmbbfiaaTd1
import Derived.Test.YtigdmkhdmbbfiaaTe1
import Derived.Test.YtigdmkhdmbbfiaaCu4
import Derived.Test.YtigdmkhdmbbfiaaCu5
import Derived.Test.YtigdmkhdmbbfiaaAwake
set_option linter.unusedSimpArgs false
set_option linter.unusedVariables false
set_option maxRecDepth 100000
namespace Go.Proofs.Ytigdmkhdmbbfiaa
open Go Go.Pv
theorem e_neT {P : Program} {ρ : Operand → PV} {h : Heap} {key : Key} {x y : Operand} {t t' : TypeId} {k : IntKind} {a b : Int} (hx : ρ x = .sc (.int k a)) (hy : ρ y = .sc (.int k b)) (hb : a ≠ b) : eff P ρ h key (.binOp .neq t x y t') = ⟨True, .bool true, [], [], false⟩ := by
 rw [e_ne hx hy, decide_eq_true hb]
theorem fr11 : (zAK Try.f11.ntmps (Try.f11.body.getD .skip) && Try.f11.results.toList.all (zAL Try.f11.ntmps)) = true := by kernel_rfl
theorem hMeetsE (t : Traffic) (hl1 : t.routes.length ≤ 9223372036854775807) (hl2 : t.supplies.length ≤ 9223372036854775807) (hl3 : t.needs.length ≤ 9223372036854775807) (htz : trafE t ≠ 0) : PCalls Try.prog 11 [.agg t.enc] (.bool true) := by
 refine PCalls.of_code Try.func11 rfl rfl (by kernel_rfl) mixed fr11 (by show _ ≤ 144; simp) (.sc _) (zAa rfl fun K1 hK1 => p_new rfl (e_box (n := 5) rfl rfl) ⟨rfl, by decide⟩ (p_aS rfl (p_end (hK1 _ ?_)))); clear hK1 K1;refine zAf (zAa rfl fun K2 hK2 => zCo rfl .nil (awake) (p_e rfl (e_not rfl) (p_end (hK2 _ ?_)))); clear hK2 K2;refine zAg (t := false) rfl fun K3 hK3 => ⟨nofun, fun _ => ?_⟩
 refine zAk (zAh (hK3 _ ?_)); clear hK3 K3;refine zAf (zAa rfl fun K4 hK4 => p_e rfl (e_lA (cs := Traffic.enc (t)) (n := 5) rfl (zAd _ _ _)) (zCo rfl (.cons (zCu (Traffic.pure _)) .nil) (fewC t (by omega) (by omega) (by omega)) (p_e rfl (e_not rfl) (p_end (hK4 _ ?_))))); clear hK4 K4;refine zAg rfl fun K5 hK5 => ⟨fun hb6 => ?_, fun hb6 => ?_⟩
 ·have hb6R := hb6; try simp only [zz] at hb6
  refine zAa rfl fun K7 hK7 => p_aS rfl (p_end (hK7 _ ?_)); clear hK7 K7;refine zAr (zAo (end1 (v := .sc _) rfl ?_));exact out_b rfl
 have hb6R := hb6; try simp only [zz] at hb6
 refine zAk (zAh (hK5 _ ?_)); clear hK5 K5;have hfw := zL5 (t := t) (by assumption);refine zAa rfl fun K8 hK8 => p_e rfl (e_lA (cs := Traffic.enc (t)) (n := 5) rfl (zAd _ _ _)) (zDI rfl (meetH t (by omega) (by omega) (by omega) _ _) fun v53 h53 c53 hR53 => ?_);obtain ⟨hO53, hc53⟩ := hR53;have hbx := (hO53.1 (1, 0) rfl (by exact Nat.zero_lt_one)).trans (zAd _ _ _);have hc1 := hO53.2 1;obtain ⟨_, rfl⟩ := hc53.resolve_right (fun q => htz q.1);refine p_e rfl (zAi (v := .tup _) rfl) (p_e rfl (e_ext (v := .nil) rfl (by simp) rfl) (p_e rfl (e_ext (v := .sc _) rfl (by simp) rfl) (p_e rfl (e_ext (v := .sc _) rfl (by simp) rfl) (p_e rfl (zAt (v := .nil) rfl) (p_aS rfl (p_aS rfl (p_end (hK8 _ ?_)))))))); clear hK8 K8;refine zBm rfl fun hkn K9 hK9 => p_e rfl (e_lA (cs := Traffic.enc (t)) (n := 5) rfl hbx) (zDI rfl (cutH t (by omega) (by omega) (by omega) _ _) fun v16 h16 c16 hR16 => ?_);obtain ⟨hO16, hc16⟩ := hR16;have hbx2 := (hO16.1 (1, 0) rfl (Nat.lt_of_lt_of_le Nat.zero_lt_one (by exact hc1))).trans hbx;obtain ⟨_, rfl⟩ := hc16.resolve_right (fun q => htz q.1);refine p_e rfl (zAi (v := .tup _) rfl) (p_e rfl (e_ext (v := .nil) rfl (by simp) rfl) (p_e rfl (e_ext (v := .sc _) rfl (by simp) rfl) (p_e rfl (e_ext (v := .sc _) rfl (by simp) rfl) (p_e rfl (zAt (v := .nil) rfl) (p_aS rfl (p_aS rfl (p_end (hK9 _ ?_)))))))); clear hK9 K9;refine zAf (zAa rfl fun K10 hK10 => p_e rfl (e_lA (cs := Traffic.enc (t)) (n := 5) rfl hbx2) (zCo rfl (.cons (zCu (Traffic.pure _)) .nil) (zGp t (by omega) (by omega) (by omega)) (p_aS rfl (p_end (hK10 _ ?_))))); clear hK10 K10;refine zAf (zAa rfl fun K11 hK11 => p_mS rfl (p_e rfl (e_neT rfl rfl htz) (p_end (hK11 _ ?_)))); clear hK11 K11;refine zAg (t := true) rfl fun K12 hK12 => ⟨fun _ => ?_, nofun⟩
 refine zAs rfl fun K13 hK13 => zBt (g_mS rfl rfl (g_mS rfl rfl (g_e rfl (e_eq rfl rfl) (g_mS rfl rfl ?_))));refine zAT (fun hb14 => ?_) (fun hb14 => ?_)
 ·have hb14R := hb14; try simp only [zz] at hb14
  refine g_mS rfl rfl (g_mS rfl rfl (g_e rfl (e_eq rfl rfl) (g_pT rfl rfl rfl (g_mS rfl rfl ?_))));refine zAT (fun hb15 => ?_) (fun hb15 => ?_)
  ·have hb15R := hb15; try simp only [zz] at hb15
   refine g_e rfl (zAi (v := .nil) rfl) (g_e rfl (zKq rfl (by kernel_rfl)) (g_e rfl (e_eq rfl rfl) (g_pT rfl rfl rfl (g_mS rfl rfl ?_))));refine zAT (fun hb16 => ?_) (fun hb16 => ?_)
   ·have hb16R := hb16; try simp only [zz] at hb16
    refine g_mS rfl rfl (g_e rfl (e_eq rfl rfl) (g_pT rfl rfl rfl (g_mS rfl rfl ?_)));refine zAT (fun hb17 => ?_) (fun hb17 => ?_)
    ·have hb17R := hb17; try simp only [zz] at hb17
     refine g_e rfl (zAi (v := .nil) rfl) (g_e rfl (zKq rfl (by kernel_rfl)) (g_e rfl (e_eq rfl rfl) (g_pT rfl rfl rfl (g_mS rfl rfl ?_))));refine zAT (fun hb18 => ?_) (fun hb18 => ?_)
     ·have hb18R := hb18; try simp only [zz] at hb18
      refine g_mS rfl rfl (g_e rfl (e_eq rfl rfl) (g_pT rfl rfl rfl (g_aS rfl rfl (g_end (ds := [43, 44, 45, 48, 49, 50, 53, 54, 57, 58, 59, 62, 63]) rfl rfl (hK13 _ ?_))))); clear hK13 K13;refine zAr (zAo (end1 (v := .sc _) rfl ?_));exact out_b rfl
     have hb18R := hb18; try simp only [zz] at hb18
     iterate 2 refine zAD rfl rfl rfl ?_
     refine g_pF rfl rfl rfl (g_aS rfl rfl (g_end (ds := [43, 44, 45, 48, 49, 50, 53, 54, 57, 58, 59, 62, 63]) rfl rfl (hK13 _ ?_))); clear hK13 K13;refine zAr (zAo (end1 (v := .sc _) rfl ?_));exact out_b (by first | rfl | (exfalso; simp only [lM] at *; omega) | (exfalso; simp_all; done) | (simp_all; done))
    have hb17R := hb17; try simp only [zz] at hb17
    iterate 3 refine zAD rfl rfl rfl ?_
    refine g_pF rfl rfl rfl (g_mS rfl rfl ?_);iterate 2 refine zAD rfl rfl rfl ?_
    refine g_pF rfl rfl rfl (g_aS rfl rfl (g_end (ds := [43, 44, 45, 48, 49, 50, 53, 54, 57, 58, 59, 62, 63]) rfl rfl (hK13 _ ?_))); clear hK13 K13;refine zAr (zAo (end1 (v := .sc _) rfl ?_));exact out_b (by first | rfl | (exfalso; simp only [lM] at *; omega) | (exfalso; simp_all; done) | (simp_all; done))
   have hb16R := hb16; try simp only [zz] at hb16
   iterate 2 refine zAD rfl rfl rfl ?_
   refine g_pF rfl rfl rfl (g_mS rfl rfl ?_);iterate 3 refine zAD rfl rfl rfl ?_
   refine g_pF rfl rfl rfl (g_mS rfl rfl ?_);iterate 2 refine zAD rfl rfl rfl ?_
   refine g_pF rfl rfl rfl (g_aS rfl rfl (g_end (ds := [43, 44, 45, 48, 49, 50, 53, 54, 57, 58, 59, 62, 63]) rfl rfl (hK13 _ ?_))); clear hK13 K13;refine zAr (zAo (end1 (v := .sc _) rfl ?_));exact out_b (by first | rfl | (exfalso; simp only [lM] at *; omega) | (exfalso; simp_all; done) | (simp_all; done))
  have hb15R := hb15; try simp only [zz] at hb15
  iterate 3 refine zAD rfl rfl rfl ?_
  refine g_pF rfl rfl rfl (g_mS rfl rfl ?_);iterate 2 refine zAD rfl rfl rfl ?_
  refine g_pF rfl rfl rfl (g_mS rfl rfl ?_);iterate 3 refine zAD rfl rfl rfl ?_
  refine g_pF rfl rfl rfl (g_mS rfl rfl ?_);iterate 2 refine zAD rfl rfl rfl ?_
  refine g_pF rfl rfl rfl (g_aS rfl rfl (g_end (ds := [43, 44, 45, 48, 49, 50, 53, 54, 57, 58, 59, 62, 63]) rfl rfl (hK13 _ ?_))); clear hK13 K13;refine zAr (zAo (end1 (v := .sc _) rfl ?_));exact out_b (by first | rfl | (exfalso; simp only [lM] at *; omega) | (exfalso; simp_all; done) | (simp_all; done))
 have hb14R := hb14; try simp only [zz] at hb14
 iterate 3 refine zAD rfl rfl rfl ?_
 refine g_pF rfl rfl rfl (g_mS rfl rfl ?_);iterate 3 refine zAD rfl rfl rfl ?_
 refine g_pF rfl rfl rfl (g_mS rfl rfl ?_);iterate 2 refine zAD rfl rfl rfl ?_
 refine g_pF rfl rfl rfl (g_mS rfl rfl ?_);iterate 3 refine zAD rfl rfl rfl ?_
 refine g_pF rfl rfl rfl (g_mS rfl rfl ?_);iterate 2 refine zAD rfl rfl rfl ?_
 refine g_pF rfl rfl rfl (g_aS rfl rfl (g_end (ds := [43, 44, 45, 48, 49, 50, 53, 54, 57, 58, 59, 62, 63]) rfl rfl (hK13 _ ?_))); clear hK13 K13;refine zAr (zAo (end1 (v := .sc _) rfl ?_));exact out_b (by first | rfl | (exfalso; simp only [lM] at *; omega) | (exfalso; simp_all; done) | (simp_all; done))
theorem hMeets0 (t : Traffic) (hl1 : t.routes.length ≤ 9223372036854775807) (hl2 : t.supplies.length ≤ 9223372036854775807) (hl3 : t.needs.length ≤ 9223372036854775807) (htz : trafE t = 0) : PCalls Try.prog 11 [.agg t.enc] (.bool true) := by
 refine PCalls.of_code Try.func11 rfl rfl (by kernel_rfl) mixed fr11 (by show _ ≤ 144; simp) (.sc _) (zAa rfl fun K1 hK1 => p_new rfl (e_box (n := 5) rfl rfl) ⟨rfl, by decide⟩ (p_aS rfl (p_end (hK1 _ ?_)))); clear hK1 K1;refine zAf (zAa rfl fun K2 hK2 => zCo rfl .nil (awake) (p_e rfl (e_not rfl) (p_end (hK2 _ ?_)))); clear hK2 K2;refine zAg (t := false) rfl fun K3 hK3 => ⟨nofun, fun _ => ?_⟩
 refine zAk (zAh (hK3 _ ?_)); clear hK3 K3;refine zAf (zAa rfl fun K4 hK4 => p_e rfl (e_lA (cs := Traffic.enc (t)) (n := 5) rfl (zAd _ _ _)) (zCo rfl (.cons (zCu (Traffic.pure _)) .nil) (fewC t (by omega) (by omega) (by omega)) (p_e rfl (e_not rfl) (p_end (hK4 _ ?_))))); clear hK4 K4;refine zAg rfl fun K5 hK5 => ⟨fun hb6 => ?_, fun hb6 => ?_⟩
 ·have hb6R := hb6; try simp only [zz] at hb6
  refine zAa rfl fun K7 hK7 => p_aS rfl (p_end (hK7 _ ?_)); clear hK7 K7;refine zAr (zAo (end1 (v := .sc _) rfl ?_));exact out_b rfl
 have hb6R := hb6; try simp only [zz] at hb6
 refine zAk (zAh (hK5 _ ?_)); clear hK5 K5;have hfw := zL5 (t := t) (by assumption);refine zAa rfl fun K8 hK8 => p_e rfl (e_lA (cs := Traffic.enc (t)) (n := 5) rfl (zAd _ _ _)) (zDI rfl (meetH t (by omega) (by omega) (by omega) _ _) fun v53 h53 c53 hR53 => ?_);obtain ⟨hO53, hc53⟩ := hR53;have hbx := (hO53.1 (1, 0) rfl (by exact Nat.zero_lt_one)).trans (zAd _ _ _);have hc1 := hO53.2 1;obtain ⟨_, u, l, n, rfl, hsm, hll, htl, kk, hkk⟩ := hc53.resolve_left (fun q => q.1 htz);refine p_e rfl (zAi (v := .tup _) rfl) (p_e rfl (e_ext (v := _) rfl (by simp) rfl) (p_e rfl (e_ext (v := .sc _) rfl (by simp) rfl) (p_e rfl (e_ext (v := .sc _) rfl (by simp) rfl) (p_e rfl (zAt (v := _) rfl) (p_aS rfl (p_aS rfl (p_end (hK8 _ ?_)))))))); clear hK8 K8;refine zBm rfl fun hkn K9 hK9 => p_e rfl (e_lA (cs := Traffic.enc (t)) (n := 5) rfl hbx) (zDI rfl (cutH t (by omega) (by omega) (by omega) _ _) fun v16 h16 c16 hR16 => ?_);obtain ⟨hO16, hc16⟩ := hR16;have hbx2 := (hO16.1 (1, 0) rfl (Nat.lt_of_lt_of_le Nat.zero_lt_one (by exact hc1))).trans hbx;obtain ⟨_, u2, k, n2, rfl, hsk, hkl, hkv, l2, hl2t⟩ := hc16.resolve_left (fun q => q.1 htz);have hsm2 := sl_old hkn hO16 rfl hsm;have hT := zDf htz; have hn12 : n = n2 := Int.le_antisymm (weak hT htl hkv) (weak hT hl2t hkk);have e1 : (tripE t l).1 = n ∧ (tripE t l).2 = 0 := by rw [htl]; exact ⟨rfl, rfl⟩
 have e2 : (cutV t k).1 = n2 ∧ (cutV t k).2 = 0 := by rw [hkv]; exact ⟨rfl, rfl⟩
 have e3 : (tripW t l).1 = n ∧ (tripW t l).2 = 0 := by rw [tw_0 htz]; exact e1
 have e4 : (cutW t k).1 = n2 ∧ (cutW t k).2 = 0 := by rw [cw_0 htz]; exact e2
 refine p_e rfl (zAi (v := .tup _) rfl) (p_e rfl (e_ext (v := _) rfl (by simp) rfl) (p_e rfl (e_ext (v := .sc _) rfl (by simp) rfl) (p_e rfl (e_ext (v := .sc _) rfl (by simp) rfl) (p_e rfl (zAt (v := _) rfl) (p_aS rfl (p_aS rfl (p_end (hK9 _ ?_)))))))); clear hK9 K9;refine zAf (zAa rfl fun K10 hK10 => p_e rfl (e_lA (cs := Traffic.enc (t)) (n := 5) rfl hbx2) (zCo rfl (.cons (zCu (Traffic.pure _)) .nil) (zGp t (by omega) (by omega) (by omega)) (p_aS rfl (p_end (hK10 _ ?_))))); clear hK10 K10;refine zAf (zAa rfl fun K11 hK11 => p_mS rfl (p_e rfl (e_ne rfl rfl) (p_end (hK11 _ ?_)))); clear hK11 K11;refine zAg rfl fun K12 hK12 => ⟨fun hb13 => ?_, fun hb13 => ?_⟩
 ·have hb13R := hb13; try simp only [zz] at hb13
  refine zAs rfl fun K14 hK14 => zBt (g_mS rfl rfl (g_mS rfl rfl (g_e rfl (e_eq rfl rfl) (g_mS rfl rfl ?_))));refine zAT (fun hb15 => ?_) (fun hb15 => ?_)
  ·have hb15R := hb15; try simp only [zz] at hb15
   refine g_mS rfl rfl (g_mS rfl rfl (g_e rfl (e_eq rfl rfl) (g_pT rfl rfl rfl (g_mS rfl rfl ?_))));refine zAT (fun hb16 => ?_) (fun hb16 => ?_)
   ·have hb16R := hb16; try simp only [zz] at hb16
    refine g_e rfl (zAi (v := _) rfl) (g_e rfl (zAE.len hsm2 rfl (by kernel_rfl)) (g_e rfl (e_eq rfl rfl) (g_pT rfl rfl rfl (g_mS rfl rfl ?_))));refine zAT (fun hb17 => ?_) (fun hb17 => ?_)
    ·have hb17R := hb17; try simp only [zz] at hb17
     refine g_mS rfl rfl (g_e rfl (e_eq rfl rfl) (g_pT rfl rfl rfl (g_mS rfl rfl ?_)));refine zAT (fun hb18 => ?_) (fun hb18 => ?_)
     ·have hb18R := hb18; try simp only [zz] at hb18
      refine g_e rfl (zAi (v := _) rfl) (g_e rfl (zAE.len hsk rfl (by kernel_rfl)) (g_e rfl (e_eq rfl rfl) (g_pT rfl rfl rfl (g_mS rfl rfl ?_))));refine zAT (fun hb19 => ?_) (fun hb19 => ?_)
      ·have hb19R := hb19; try simp only [zz] at hb19
       refine g_mS rfl rfl (g_e rfl (e_eq rfl rfl) (g_pT rfl rfl rfl (g_aS rfl rfl (g_end (ds := [43, 44, 45, 48, 49, 50, 53, 54, 57, 58, 59, 62, 63]) rfl rfl (hK14 _ ?_))))); clear hK14 K14;refine zAr (zAo (end1 (v := .sc _) rfl ?_));exact out_b (by first | rfl | (rw [Bool.eq_iff_iff]; simp only [decide_eq_true_eq, Bool.false_eq_true, false_iff, iff_true, iff_false]; omega) | (exfalso; omega))
      have hb19R := hb19; try simp only [zz] at hb19
      iterate 2 refine zAD rfl rfl rfl ?_
      refine g_pF rfl rfl rfl (g_aS rfl rfl (g_end (ds := [43, 44, 45, 48, 49, 50, 53, 54, 57, 58, 59, 62, 63]) rfl rfl (hK14 _ ?_))); clear hK14 K14;refine zAr (zAo (end1 (v := .sc _) rfl ?_));exact out_b (by first | rfl | (rw [Bool.eq_iff_iff]; simp only [decide_eq_true_eq, Bool.false_eq_true, false_iff, iff_true, iff_false]; omega) | (exfalso; omega))
     have hb18R := hb18; try simp only [zz] at hb18
     iterate 3 refine zAD rfl rfl rfl ?_
     refine g_pF rfl rfl rfl (g_mS rfl rfl ?_);iterate 2 refine zAD rfl rfl rfl ?_
     refine g_pF rfl rfl rfl (g_aS rfl rfl (g_end (ds := [43, 44, 45, 48, 49, 50, 53, 54, 57, 58, 59, 62, 63]) rfl rfl (hK14 _ ?_))); clear hK14 K14;refine zAr (zAo (end1 (v := .sc _) rfl ?_));exact out_b (by first | rfl | (rw [Bool.eq_iff_iff]; simp only [decide_eq_true_eq, Bool.false_eq_true, false_iff, iff_true, iff_false]; omega) | (exfalso; omega))
    have hb17R := hb17; try simp only [zz] at hb17
    iterate 2 refine zAD rfl rfl rfl ?_
    refine g_pF rfl rfl rfl (g_mS rfl rfl ?_);iterate 3 refine zAD rfl rfl rfl ?_
    refine g_pF rfl rfl rfl (g_mS rfl rfl ?_);iterate 2 refine zAD rfl rfl rfl ?_
    refine g_pF rfl rfl rfl (g_aS rfl rfl (g_end (ds := [43, 44, 45, 48, 49, 50, 53, 54, 57, 58, 59, 62, 63]) rfl rfl (hK14 _ ?_))); clear hK14 K14;refine zAr (zAo (end1 (v := .sc _) rfl ?_));exact out_b (by first | rfl | (rw [Bool.eq_iff_iff]; simp only [decide_eq_true_eq, Bool.false_eq_true, false_iff, iff_true, iff_false]; omega) | (exfalso; omega))
   have hb16R := hb16; try simp only [zz] at hb16
   iterate 3 refine zAD rfl rfl rfl ?_
   refine g_pF rfl rfl rfl (g_mS rfl rfl ?_);iterate 2 refine zAD rfl rfl rfl ?_
   refine g_pF rfl rfl rfl (g_mS rfl rfl ?_);iterate 3 refine zAD rfl rfl rfl ?_
   refine g_pF rfl rfl rfl (g_mS rfl rfl ?_);iterate 2 refine zAD rfl rfl rfl ?_
   refine g_pF rfl rfl rfl (g_aS rfl rfl (g_end (ds := [43, 44, 45, 48, 49, 50, 53, 54, 57, 58, 59, 62, 63]) rfl rfl (hK14 _ ?_))); clear hK14 K14;refine zAr (zAo (end1 (v := .sc _) rfl ?_));exact out_b (by first | rfl | (rw [Bool.eq_iff_iff]; simp only [decide_eq_true_eq, Bool.false_eq_true, false_iff, iff_true, iff_false]; omega) | (exfalso; omega))
  have hb15R := hb15; try simp only [zz] at hb15
  iterate 3 refine zAD rfl rfl rfl ?_
  refine g_pF rfl rfl rfl (g_mS rfl rfl ?_);iterate 3 refine zAD rfl rfl rfl ?_
  refine g_pF rfl rfl rfl (g_mS rfl rfl ?_);iterate 2 refine zAD rfl rfl rfl ?_
  refine g_pF rfl rfl rfl (g_mS rfl rfl ?_);iterate 3 refine zAD rfl rfl rfl ?_
  refine g_pF rfl rfl rfl (g_mS rfl rfl ?_);iterate 2 refine zAD rfl rfl rfl ?_
  refine g_pF rfl rfl rfl (g_aS rfl rfl (g_end (ds := [43, 44, 45, 48, 49, 50, 53, 54, 57, 58, 59, 62, 63]) rfl rfl (hK14 _ ?_))); clear hK14 K14;refine zAr (zAo (end1 (v := .sc _) rfl ?_));exact out_b (by first | rfl | (rw [Bool.eq_iff_iff]; simp only [decide_eq_true_eq, Bool.false_eq_true, false_iff, iff_true, iff_false]; omega) | (exfalso; omega))
 have hb13R := hb13; try simp only [zz] at hb13
 refine zAk (zAh (hK12 _ ?_)); clear hK12 K12;refine zAf (zAs rfl fun K20 hK20 => zBt (g_e rfl (zAi (v := _) rfl) (g_e rfl (zAE.len hsm2 rfl (by kernel_rfl)) (g_e rfl (e_gt rfl rfl) (g_mS rfl rfl ?_)))));refine zAT (fun hb21 => ?_) (fun hb21 => ?_)
 ·have hb21R := hb21; try simp only [zz] at hb21
  iterate 3 refine zAD rfl rfl rfl ?_
  refine g_pT rfl rfl rfl (g_end (ds := [69, 70, 71]) rfl rfl (hK20 _ ?_)); clear hK20 K20;refine zAg (t := true) rfl fun K22 hK22 => ⟨fun _ => ?_, nofun⟩
  refine zAa rfl fun K23 hK23 => p_aS rfl (p_end (hK23 _ ?_)); clear hK23 K23;refine zAr (zAo (end1 (v := .sc _) rfl ?_));exact out_b (by first | rfl | (rw [Bool.eq_iff_iff]; simp only [decide_eq_true_eq, Bool.false_eq_true, false_iff, iff_true, iff_false]; omega) | (exfalso; omega))
 have hb21R := hb21; try simp only [zz] at hb21
 refine g_e rfl (zAi (v := _) rfl) (g_e rfl (zAE.len hsk rfl (by kernel_rfl)) (g_e rfl (e_gt rfl rfl) (g_pF rfl rfl rfl (g_end (ds := [69, 70, 71]) rfl rfl (hK20 _ ?_))))); clear hK20 K20;refine zAg rfl fun K24 hK24 => ⟨fun hb25 => ?_, fun hb25 => ?_⟩
 ·have hb25R := hb25; try simp only [zz] at hb25
  refine zAa rfl fun K26 hK26 => p_aS rfl (p_end (hK26 _ ?_)); clear hK26 K26;refine zAr (zAo (end1 (v := .sc _) rfl ?_));exact out_b (by first | rfl | (rw [Bool.eq_iff_iff]; simp only [decide_eq_true_eq, Bool.false_eq_true, false_iff, iff_true, iff_false]; omega) | (exfalso; omega))
 have hb25R := hb25; try simp only [zz] at hb25
 refine zAk (zAh (hK24 _ ?_)); clear hK24 K24;refine zAa rfl fun K27 hK27 => p_e rfl (e_lA (cs := Traffic.enc (t)) (n := 5) rfl hbx2) (p_e rfl (zAi (v := _) rfl) (zCo rfl (.cons (zCu (Traffic.pure _)) (.cons (zAE.inn (rows' := (l).map Trip.enc) hsm2 (by simp) (by first | exact zBF Trip.pure | exact zBF At.pure)) .nil)) (refTripsC t l htz (by omega)) (p_e rfl (zAi (v := .tup _) rfl) (p_e rfl (e_ext (v := .sc _) rfl (by simp) rfl) (p_e rfl (e_ext (v := .sc _) rfl (by simp) rfl) (p_aS rfl ?_))))));refine p_aS rfl (p_end (hK27 _ ?_)); clear hK27 K27;refine zAa rfl fun K28 hK28 => p_e rfl (e_lA (cs := Traffic.enc (t)) (n := 5) rfl hbx2) (p_e rfl (zAi (v := _) rfl) (zCo rfl (.cons (zCu (Traffic.pure _)) (.cons (zAE.inn (rows' := (k).map At.enc) hsk (by simp) (by first | exact zBF Trip.pure | exact zBF At.pure)) .nil)) (refCutC t k htz (by omega)) (p_e rfl (zAi (v := .tup _) rfl) (p_e rfl (e_ext (v := .sc _) rfl (by simp) rfl) (p_e rfl (e_ext (v := .sc _) rfl (by simp) rfl) (p_aS rfl ?_))))));refine p_aS rfl (p_end (hK28 _ ?_)); clear hK28 K28;refine zAa rfl fun K29 hK29 => p_e rfl (e_lA (cs := Traffic.enc (t)) (n := 5) rfl hbx2) (p_e rfl (zAi (v := _) rfl) (zCo rfl (.cons (zCu (Traffic.pure _)) (.cons (zAE.inn (rows' := (l).map Trip.enc) hsm2 (by simp) (by first | exact zBF Trip.pure | exact zBF At.pure)) .nil)) (CheckTripsC t l (by omega) (by omega) (by omega) (by omega)) (p_e rfl (zAi (v := .tup _) rfl) (p_e rfl (e_ext (v := .sc _) rfl (by simp) rfl) (p_e rfl (e_ext (v := .sc _) rfl (by simp) rfl) (p_aS rfl ?_))))));refine p_aS rfl (p_end (hK29 _ ?_)); clear hK29 K29;refine zAa rfl fun K30 hK30 => p_e rfl (e_lA (cs := Traffic.enc (t)) (n := 5) rfl hbx2) (p_e rfl (zAi (v := _) rfl) (zCo rfl (.cons (zCu (Traffic.pure _)) (.cons (zAE.inn (rows' := (k).map At.enc) hsk (by simp) (by first | exact zBF Trip.pure | exact zBF At.pure)) .nil)) (CheckCutC t k (by omega) (by omega) (by omega) (by omega)) (p_e rfl (zAi (v := .tup _) rfl) (p_e rfl (e_ext (v := .sc _) rfl (by simp) rfl) (p_e rfl (e_ext (v := .sc _) rfl (by simp) rfl) (p_aS rfl ?_))))));refine p_aS rfl (p_end (hK30 _ ?_)); clear hK30 K30;refine zAs rfl fun K31 hK31 => zBt (g_mS rfl rfl (g_e rfl (e_eq rfl rfl) (g_mS rfl rfl ?_)));refine zAT (fun hb32 => ?_) (fun hb32 => ?_)
 ·have hb32R := hb32; try simp only [zz] at hb32
  refine g_mS rfl rfl (g_e rfl (e_eq rfl rfl) (g_pT rfl rfl rfl (g_mS rfl rfl ?_)));refine zAT (fun hb33 => ?_) (fun hb33 => ?_)
  ·have hb33R := hb33; try simp only [zz] at hb33
   refine g_mS rfl rfl (g_e rfl (e_eq rfl rfl) (g_pT rfl rfl rfl (g_mS rfl rfl ?_)));refine zAT (fun hb34 => ?_) (fun hb34 => ?_)
   ·have hb34R := hb34; try simp only [zz] at hb34
    refine g_mS rfl rfl (g_e rfl (e_eq rfl rfl) (g_pT rfl rfl rfl (g_mS rfl rfl ?_)));refine zAT (fun hb35 => ?_) (fun hb35 => ?_)
    ·have hb35R := hb35; try simp only [zz] at hb35
     refine g_mS rfl rfl (g_e rfl (e_eq rfl rfl) (g_pT rfl rfl rfl (g_mS rfl rfl ?_)));refine zAT (fun hb36 => ?_) (fun hb36 => ?_)
     ·have hb36R := hb36; try simp only [zz] at hb36
      refine g_mS rfl rfl (g_e rfl (e_eq rfl rfl) (g_pT rfl rfl rfl (g_mS rfl rfl ?_)));refine zAT (fun hb37 => ?_) (fun hb37 => ?_)
      ·have hb37R := hb37; try simp only [zz] at hb37
       refine g_mS rfl rfl (g_mS rfl rfl (g_e rfl (e_eq rfl rfl) (g_pT rfl rfl rfl (g_mS rfl rfl ?_))));refine zAT (fun hb38 => ?_) (fun hb38 => ?_)
       ·have hb38R := hb38; try simp only [zz] at hb38
        refine g_mS rfl rfl (g_mS rfl rfl (g_e rfl (e_eq rfl rfl) (g_pT rfl rfl rfl (g_mS rfl rfl ?_))));refine zAT (fun hb39 => ?_) (fun hb39 => ?_)
        ·have hb39R := hb39; try simp only [zz] at hb39
         refine g_mS rfl rfl (g_mS rfl rfl (g_e rfl (e_eq rfl rfl) (g_pT rfl rfl rfl (g_mS rfl rfl ?_))));refine zAT (fun hb40 => ?_) (fun hb40 => ?_)
         ·have hb40R := hb40; try simp only [zz] at hb40
          refine g_mS rfl rfl (g_mS rfl rfl (g_e rfl (e_eq rfl rfl) (g_pT rfl rfl rfl (g_mS rfl rfl ?_))));refine zAT (fun hb41 => ?_) (fun hb41 => ?_)
          ·have hb41R := hb41; try simp only [zz] at hb41
           refine g_mS rfl rfl (g_mS rfl rfl (g_e rfl (e_eq rfl rfl) (g_pT rfl rfl rfl (g_aS rfl rfl (g_end (ds := [100, 101, 104, 105, 108, 109, 112, 113, 116, 117, 120, 121, 122, 125, 126, 127, 130, 131, 132, 135, 136, 137, 140, 141, 142]) rfl rfl (hK31 _ ?_)))))); clear hK31 K31;refine zAr (end1 (v := .sc _) rfl ?_);exact out_b (by first | rfl | (rw [Bool.eq_iff_iff]; simp only [decide_eq_true_eq, Bool.false_eq_true, false_iff, iff_true, iff_false]; omega) | (exfalso; omega))
          have hb41R := hb41; try simp only [zz] at hb41
          iterate 3 refine zAD rfl rfl rfl ?_
          refine g_pF rfl rfl rfl (g_aS rfl rfl (g_end (ds := [100, 101, 104, 105, 108, 109, 112, 113, 116, 117, 120, 121, 122, 125, 126, 127, 130, 131, 132, 135, 136, 137, 140, 141, 142]) rfl rfl (hK31 _ ?_))); clear hK31 K31;refine zAr (end1 (v := .sc _) rfl ?_);exact out_b (by first | rfl | (rw [Bool.eq_iff_iff]; simp only [decide_eq_true_eq, Bool.false_eq_true, false_iff, iff_true, iff_false]; omega) | (exfalso; omega))
         have hb40R := hb40; try simp only [zz] at hb40
         iterate 3 refine zAD rfl rfl rfl ?_
         refine g_pF rfl rfl rfl (g_mS rfl rfl ?_);iterate 3 refine zAD rfl rfl rfl ?_
         refine g_pF rfl rfl rfl (g_aS rfl rfl (g_end (ds := [100, 101, 104, 105, 108, 109, 112, 113, 116, 117, 120, 121, 122, 125, 126, 127, 130, 131, 132, 135, 136, 137, 140, 141, 142]) rfl rfl (hK31 _ ?_))); clear hK31 K31;refine zAr (end1 (v := .sc _) rfl ?_);exact out_b (by first | rfl | (rw [Bool.eq_iff_iff]; simp only [decide_eq_true_eq, Bool.false_eq_true, false_iff, iff_true, iff_false]; omega) | (exfalso; omega))
        have hb39R := hb39; try simp only [zz] at hb39
        iterate 3 refine zAD rfl rfl rfl ?_
        refine g_pF rfl rfl rfl (g_mS rfl rfl ?_);iterate 3 refine zAD rfl rfl rfl ?_
        refine g_pF rfl rfl rfl (g_mS rfl rfl ?_);iterate 3 refine zAD rfl rfl rfl ?_
        refine g_pF rfl rfl rfl (g_aS rfl rfl (g_end (ds := [100, 101, 104, 105, 108, 109, 112, 113, 116, 117, 120, 121, 122, 125, 126, 127, 130, 131, 132, 135, 136, 137, 140, 141, 142]) rfl rfl (hK31 _ ?_))); clear hK31 K31;refine zAr (end1 (v := .sc _) rfl ?_);exact out_b (by first | rfl | (rw [Bool.eq_iff_iff]; simp only [decide_eq_true_eq, Bool.false_eq_true, false_iff, iff_true, iff_false]; omega) | (exfalso; omega))
       have hb38R := hb38; try simp only [zz] at hb38
       iterate 3 refine zAD rfl rfl rfl ?_
       refine g_pF rfl rfl rfl (g_mS rfl rfl ?_);iterate 3 refine zAD rfl rfl rfl ?_
       refine g_pF rfl rfl rfl (g_mS rfl rfl ?_);iterate 3 refine zAD rfl rfl rfl ?_
       refine g_pF rfl rfl rfl (g_mS rfl rfl ?_);iterate 3 refine zAD rfl rfl rfl ?_
       refine g_pF rfl rfl rfl (g_aS rfl rfl (g_end (ds := [100, 101, 104, 105, 108, 109, 112, 113, 116, 117, 120, 121, 122, 125, 126, 127, 130, 131, 132, 135, 136, 137, 140, 141, 142]) rfl rfl (hK31 _ ?_))); clear hK31 K31;refine zAr (end1 (v := .sc _) rfl ?_);exact out_b (by first | rfl | (rw [Bool.eq_iff_iff]; simp only [decide_eq_true_eq, Bool.false_eq_true, false_iff, iff_true, iff_false]; omega) | (exfalso; omega))
      have hb37R := hb37; try simp only [zz] at hb37
      iterate 3 refine zAD rfl rfl rfl ?_
      refine g_pF rfl rfl rfl (g_mS rfl rfl ?_);iterate 3 refine zAD rfl rfl rfl ?_
      refine g_pF rfl rfl rfl (g_mS rfl rfl ?_);iterate 3 refine zAD rfl rfl rfl ?_
      refine g_pF rfl rfl rfl (g_mS rfl rfl ?_);iterate 3 refine zAD rfl rfl rfl ?_
      refine g_pF rfl rfl rfl (g_mS rfl rfl ?_);iterate 3 refine zAD rfl rfl rfl ?_
      refine g_pF rfl rfl rfl (g_aS rfl rfl (g_end (ds := [100, 101, 104, 105, 108, 109, 112, 113, 116, 117, 120, 121, 122, 125, 126, 127, 130, 131, 132, 135, 136, 137, 140, 141, 142]) rfl rfl (hK31 _ ?_))); clear hK31 K31;refine zAr (end1 (v := .sc _) rfl ?_);exact out_b (by first | rfl | (rw [Bool.eq_iff_iff]; simp only [decide_eq_true_eq, Bool.false_eq_true, false_iff, iff_true, iff_false]; omega) | (exfalso; omega))
     have hb36R := hb36; try simp only [zz] at hb36
     iterate 2 refine zAD rfl rfl rfl ?_
     refine g_pF rfl rfl rfl (g_mS rfl rfl ?_);iterate 3 refine zAD rfl rfl rfl ?_
     refine g_pF rfl rfl rfl (g_mS rfl rfl ?_);iterate 3 refine zAD rfl rfl rfl ?_
     refine g_pF rfl rfl rfl (g_mS rfl rfl ?_);iterate 3 refine zAD rfl rfl rfl ?_
     refine g_pF rfl rfl rfl (g_mS rfl rfl ?_);iterate 3 refine zAD rfl rfl rfl ?_
     refine g_pF rfl rfl rfl (g_mS rfl rfl ?_);iterate 3 refine zAD rfl rfl rfl ?_
     refine g_pF rfl rfl rfl (g_aS rfl rfl (g_end (ds := [100, 101, 104, 105, 108, 109, 112, 113, 116, 117, 120, 121, 122, 125, 126, 127, 130, 131, 132, 135, 136, 137, 140, 141, 142]) rfl rfl (hK31 _ ?_))); clear hK31 K31;refine zAr (end1 (v := .sc _) rfl ?_);exact out_b (by first | rfl | (rw [Bool.eq_iff_iff]; simp only [decide_eq_true_eq, Bool.false_eq_true, false_iff, iff_true, iff_false]; omega) | (exfalso; omega))
    have hb35R := hb35; try simp only [zz] at hb35
    iterate 2 refine zAD rfl rfl rfl ?_
    refine g_pF rfl rfl rfl (g_mS rfl rfl ?_);iterate 2 refine zAD rfl rfl rfl ?_
    refine g_pF rfl rfl rfl (g_mS rfl rfl ?_);iterate 3 refine zAD rfl rfl rfl ?_
    refine g_pF rfl rfl rfl (g_mS rfl rfl ?_);iterate 3 refine zAD rfl rfl rfl ?_
    refine g_pF rfl rfl rfl (g_mS rfl rfl ?_);iterate 3 refine zAD rfl rfl rfl ?_
    refine g_pF rfl rfl rfl (g_mS rfl rfl ?_);iterate 3 refine zAD rfl rfl rfl ?_
    refine g_pF rfl rfl rfl (g_mS rfl rfl ?_);iterate 3 refine zAD rfl rfl rfl ?_
    refine g_pF rfl rfl rfl (g_aS rfl rfl (g_end (ds := [100, 101, 104, 105, 108, 109, 112, 113, 116, 117, 120, 121, 122, 125, 126, 127, 130, 131, 132, 135, 136, 137, 140, 141, 142]) rfl rfl (hK31 _ ?_))); clear hK31 K31;refine zAr (end1 (v := .sc _) rfl ?_);exact out_b (by first | rfl | (rw [Bool.eq_iff_iff]; simp only [decide_eq_true_eq, Bool.false_eq_true, false_iff, iff_true, iff_false]; omega) | (exfalso; omega))
   have hb34R := hb34; try simp only [zz] at hb34
   iterate 2 refine zAD rfl rfl rfl ?_
   refine g_pF rfl rfl rfl (g_mS rfl rfl ?_);iterate 2 refine zAD rfl rfl rfl ?_
   refine g_pF rfl rfl rfl (g_mS rfl rfl ?_);iterate 2 refine zAD rfl rfl rfl ?_
   refine g_pF rfl rfl rfl (g_mS rfl rfl ?_);iterate 3 refine zAD rfl rfl rfl ?_
   refine g_pF rfl rfl rfl (g_mS rfl rfl ?_);iterate 3 refine zAD rfl rfl rfl ?_
   refine g_pF rfl rfl rfl (g_mS rfl rfl ?_);iterate 3 refine zAD rfl rfl rfl ?_
   refine g_pF rfl rfl rfl (g_mS rfl rfl ?_);iterate 3 refine zAD rfl rfl rfl ?_
   refine g_pF rfl rfl rfl (g_mS rfl rfl ?_);iterate 3 refine zAD rfl rfl rfl ?_
   refine g_pF rfl rfl rfl (g_aS rfl rfl (g_end (ds := [100, 101, 104, 105, 108, 109, 112, 113, 116, 117, 120, 121, 122, 125, 126, 127, 130, 131, 132, 135, 136, 137, 140, 141, 142]) rfl rfl (hK31 _ ?_))); clear hK31 K31;refine zAr (end1 (v := .sc _) rfl ?_);exact out_b (by first | rfl | (rw [Bool.eq_iff_iff]; simp only [decide_eq_true_eq, Bool.false_eq_true, false_iff, iff_true, iff_false]; omega) | (exfalso; omega))
  have hb33R := hb33; try simp only [zz] at hb33
  iterate 2 refine zAD rfl rfl rfl ?_
  refine g_pF rfl rfl rfl (g_mS rfl rfl ?_);iterate 2 refine zAD rfl rfl rfl ?_
  refine g_pF rfl rfl rfl (g_mS rfl rfl ?_);iterate 2 refine zAD rfl rfl rfl ?_
  refine g_pF rfl rfl rfl (g_mS rfl rfl ?_);iterate 2 refine zAD rfl rfl rfl ?_
  refine g_pF rfl rfl rfl (g_mS rfl rfl ?_);iterate 3 refine zAD rfl rfl rfl ?_
  refine g_pF rfl rfl rfl (g_mS rfl rfl ?_);iterate 3 refine zAD rfl rfl rfl ?_
  refine g_pF rfl rfl rfl (g_mS rfl rfl ?_);iterate 3 refine zAD rfl rfl rfl ?_
  refine g_pF rfl rfl rfl (g_mS rfl rfl ?_);iterate 3 refine zAD rfl rfl rfl ?_
  refine g_pF rfl rfl rfl (g_mS rfl rfl ?_);iterate 3 refine zAD rfl rfl rfl ?_
  refine g_pF rfl rfl rfl (g_aS rfl rfl (g_end (ds := [100, 101, 104, 105, 108, 109, 112, 113, 116, 117, 120, 121, 122, 125, 126, 127, 130, 131, 132, 135, 136, 137, 140, 141, 142]) rfl rfl (hK31 _ ?_))); clear hK31 K31;refine zAr (end1 (v := .sc _) rfl ?_);exact out_b (by first | rfl | (exfalso; simp only [lM] at *; omega) | (exfalso; simp_all; done) | (simp_all; done))
 have hb32R := hb32; try simp only [zz] at hb32
 iterate 2 refine zAD rfl rfl rfl ?_
 refine g_pF rfl rfl rfl (g_mS rfl rfl ?_);iterate 2 refine zAD rfl rfl rfl ?_
 refine g_pF rfl rfl rfl (g_mS rfl rfl ?_);iterate 2 refine zAD rfl rfl rfl ?_
 refine g_pF rfl rfl rfl (g_mS rfl rfl ?_);iterate 2 refine zAD rfl rfl rfl ?_
 refine g_pF rfl rfl rfl (g_mS rfl rfl ?_);iterate 2 refine zAD rfl rfl rfl ?_
 refine g_pF rfl rfl rfl (g_mS rfl rfl ?_);iterate 3 refine zAD rfl rfl rfl ?_
 refine g_pF rfl rfl rfl (g_mS rfl rfl ?_);iterate 3 refine zAD rfl rfl rfl ?_
 refine g_pF rfl rfl rfl (g_mS rfl rfl ?_);iterate 3 refine zAD rfl rfl rfl ?_
 refine g_pF rfl rfl rfl (g_mS rfl rfl ?_);iterate 3 refine zAD rfl rfl rfl ?_
 refine g_pF rfl rfl rfl (g_mS rfl rfl ?_);iterate 3 refine zAD rfl rfl rfl ?_
 refine g_pF rfl rfl rfl (g_aS rfl rfl (g_end (ds := [100, 101, 104, 105, 108, 109, 112, 113, 116, 117, 120, 121, 122, 125, 126, 127, 130, 131, 132, 135, 136, 137, 140, 141, 142]) rfl rfl (hK31 _ ?_))); clear hK31 K31;refine zAr (end1 (v := .sc _) rfl ?_);exact out_b (by first | rfl | (exfalso; simp only [lM] at *; omega) | (exfalso; simp_all; done) | (simp_all; done))
theorem hMeets (t : Traffic) (hl1 : t.routes.length ≤ 9223372036854775807) (hl2 : t.supplies.length ≤ 9223372036854775807) (hl3 : t.needs.length ≤ 9223372036854775807) : PCalls Try.prog 11 [.agg t.enc] (.bool true) := by
 by_cases htz : trafE t = 0
 · exact hMeets0 t hl1 hl2 hl3 htz
 · exact hMeetsE t hl1 hl2 hl3 htz
end Go.Proofs.Ytigdmkhdmbbfiaa
