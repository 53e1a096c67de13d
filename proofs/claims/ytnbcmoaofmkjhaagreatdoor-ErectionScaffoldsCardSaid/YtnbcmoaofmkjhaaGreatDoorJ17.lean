import Derived.Test.YtnbcmoaofmkjhaaGreatDoorJ2
import Derived.Test.YtnbcmoaofmkjhaaGreatDoorJ16
import Derived.Test.YtnbcmoaofmkjhaaGreatDoorJ4
import Derived.Test.YtnbcmoaofmkjhaaGreatDoorJ7
set_option linter.unusedSimpArgs false
set_option linter.unusedVariables false
set_option maxRecDepth 100000
namespace Go.Proofs.YtnbcmoaofmkjhaaGreatDoor.E7
open Go Go.Pv Go.Proofs.YtnbcmoaofmkjhaaGreatDoor
theorem task_eq {x y : Task} (h1 : x.name = y.name) (h2 : x.trade = y.trade) (h3 : x.member = y.member) (h4 : x.place = y.place) (h5 : x.minutes = y.minutes) (h6 : x.needs = y.needs) : x = y := by
 cases x; cases y; simp_all
theorem zFn {xs ys : List Task} {k : Nat} {x y : Task} (hx : xs[k]? = some x) (hy : ys[k]? = some y) (h : x ≠ y) : ¬ xs = ys := fun e => h (by
 rw [e, hy] at hx; exact (Option.some.inj hx).symm)
theorem same_yes {xs ys : List Task} {k : Nat} (hl : xs.length = ys.length) (h : xs.take k = ys.take k) (hk : xs.length ≤ k) : xs = ys := by
 rw [List.take_of_length_le hk, List.take_of_length_le (by omega)] at h; exact h
theorem SameTasksC (xs ys : List Task) (hl : xs.length ≤ 1000) (hn : ∀ x ∈ xs, x.needs.length ≤ 1000000) : PCalls Tryz.prog 10 [.lit true 6 (xs.map Task.enc), .lit true 6 (ys.map Task.enc)] (.bool (decide (xs = ys))) := by
 refine pco Tryz.func10 rfl rfl (.sc _) (zAa rfl fun K1 hK1 => p_aS rfl (p_end (hK1 _ ?_))); clear hK1 K1;refine zAf (zAa rfl fun K2 hK2 => p_e rfl (zAi (v := .lit _ _ _) rfl) (p_e rfl (e_len rfl (by kernel_rfl)) (p_e rfl (zAi (v := .lit _ _ _) rfl) (p_e rfl (e_len rfl (by kernel_rfl)) (p_e rfl (e_ne rfl rfl) (p_end (hK2 _ ?_))))))); clear hK2 K2;refine zAe rfl fun K3 hK3 => ⟨fun hb4 => ?_, fun hb4 => ?_⟩
 ·have hb4R := hb4; try simp only [zz] at hb4
  refine zAa rfl fun K5 hK5 => p_aS rfl (p_end (hK5 _ ?_)); clear hK5 K5;refine zAh (zAk (end1 (v := .sc _) rfl ?_));exact out_b (decide_eq_false (by first | (intro hc; subst hc; omega) | exact zFn hx hy (fun e => by subst e; first | exact absurd rfl (by assumption) | (simp at *; done) | fail))).symm
 have hb4R := hb4; try simp only [zz] at hb4
 refine zAl (zAb (hK3 _ ?_)); clear hK3 K3;refine zAf (zAa rfl fun K6 hK6 => p_aS rfl (p_end (hK6 _ ?_))); clear hK6 K6;refine zAg fun K7 hK7 => zAE (α := Nat) [0, 1] (fun (k : Nat) => [(5, .int (k))]) (fun (k : Nat) (h : Heap) (_ : Nat → Nat) => ((k) ≤ xs.length) ∧ (xs.take (k) = ys.take (k))) (fun (k : Nat) => xs.length - (k)) (0) (by exact ⟨rfl, trivial⟩) (by exact ⟨by exact Nat.zero_le _, by exact rfl⟩) fun k r8 h9 c10 hj11 => ?_;obtain ⟨hk, he⟩ := hj11;try dsimp only at hk
 try dsimp only at he
 show pwp _ _ (loopQ _ _ _) ⟨sets (mix _ _ _) [(5, .int k)], _, _⟩;refine zAf (zAa rfl fun K12 hK12 => p_mS rfl (p_e rfl (zAi (v := .lit _ _ _) rfl) (p_e rfl (e_len rfl (by kernel_rfl)) (p_e rfl (e_lt rfl rfl) (p_end (hK12 _ ?_)))))); clear hK12 K12;refine zAe rfl fun K13 hK13 => ⟨fun hb14 => ?_, fun hb14 => ?_⟩
 ·have hb14R := hb14; try simp only [zz] at hb14
  obtain ⟨x, hx, hd, ht⟩ := zBx (xs := xs) (i := k) (by omega);obtain ⟨y, hy, hdy, hty⟩ := zBx (xs := ys) (i := k) (by omega);have hxl := hn x (List.mem_of_getElem? hx);refine zAl (zAb (hK13 _ ?_)); clear hK13 K13;refine zAg fun K15 hK15 => zAm rfl fun K16 hK16 => zA0 (s_e rfl (zAi (v := .lit _ _ _) rfl) (s_e rfl (zAi (v := .sc _) rfl) (s_e rfl (e_ixL rfl rfl) (s_e rfl (e_lB (n := 6) rfl (by first | exact zBj hx rfl)) (s_e rfl (zAi (v := .lit _ _ _) rfl) ?_)))));refine s_e rfl (zAi (v := .sc _) rfl) (s_e rfl (e_ixL rfl rfl) (s_e rfl (e_lB (n := 6) rfl (by first | exact zBj hy rfl)) (s_new [] (by simp) rfl rfl rfl rfl (zAR (cs := [.str ByteArray.empty, .str ByteArray.empty, .int 0, .int 0, .int 0, .nil]) (n := 6) (by kernel_rfl) rfl (by decide)) (zAG (by decide)) (s_new [] (by simp) rfl rfl rfl rfl (zAR (cs := [.str ByteArray.empty, .str ByteArray.empty, .int 0, .int 0, .int 0, .nil]) (n := 6) (by kernel_rfl) rfl (by decide)) (zAG (by decide)) (zA4 [6] (by simp) rfl rfl (zAB rfl (h1_ w_) rfl rfl rfl (by kernel_rfl) rfl (by kernel_rfl)) trivial (zA4 [7] (by simp) rfl rfl (zAB rfl (h1_ w_) rfl rfl rfl (by kernel_rfl) rfl (by kernel_rfl)) trivial (s_end (ds := []) (by kernel_rfl) (by kernel_rfl) (hK16 _ ?_)))))))); clear hK16 K16;refine zAm rfl fun K17 hK17 => zAM (g_e rfl (e_faQ pl6 rfl) (g_e rfl (e_lH (v := .sc _) rfl (h1_ w_) rfl) (g_e rfl (e_faQ pl6 rfl) (g_e rfl (e_lH (v := .sc _) rfl w_ rfl) (g_e rfl (e_sne rfl rfl) (g_mS rfl rfl ?_))))));refine zAw (fun hb18 => ?_) (fun hb18 => ?_)
  ·have hb18R := hb18; try simp only [zz] at hb18
   iterate 5 refine gk_ ?_
   refine g_pT rfl rfl rfl (g_mS rfl rfl ?_);iterate 5 refine gk_ ?_
   refine g_pT rfl rfl rfl (g_mS rfl rfl ?_);iterate 5 refine gk_ ?_
   refine g_pT rfl rfl rfl (g_mS rfl rfl ?_);iterate 5 refine gk_ ?_
   refine g_pT rfl rfl rfl (g_mS rfl rfl ?_);iterate 4 refine gk_ ?_
   refine zAF rfl rfl rfl (zCO rfl rfl rfl (g_pT rfl rfl rfl (g_end (ds := [33, 34, 35, 36, 37, 40, 41, 42, 43, 44, 47, 48, 49, 50, 51, 54, 55, 56, 57, 58, 61, 62, 63, 64, 65, 66]) rfl rfl (hK17 _ ?_)))); clear hK17 K17;refine zAt (t := true) rfl (fun _ => ?_) nofun;refine zAa rfl fun K19 hK19 => p_aS rfl (p_end (hK19 _ ?_)); clear hK19 K19;refine zAh (zAc (zAk (zAP (zAc (zAk (end1 (v := .sc _) rfl ?_))))));exact out_b (decide_eq_false (by first | (intro hc; subst hc; omega) | exact zFn hx hy (fun e => by subst e; first | exact absurd rfl (by assumption) | (simp at *; done) | fail))).symm
  have hb18R := hb18; try simp only [zz] at hb18
  refine g_e rfl (e_faQ pl6 rfl) (g_e rfl (e_lH (v := .sc _) rfl (h1_ w_) rfl) (g_e rfl (e_faQ pl6 rfl) (g_e rfl (e_lH (v := .sc _) rfl w_ rfl) (g_e rfl (e_sne rfl rfl) (g_pF rfl rfl rfl (g_mS rfl rfl ?_))))));refine zAw (fun hb20 => ?_) (fun hb20 => ?_)
  ·have hb20R := hb20; try simp only [zz] at hb20
   iterate 5 refine gk_ ?_
   refine g_pT rfl rfl rfl (g_mS rfl rfl ?_);iterate 5 refine gk_ ?_
   refine g_pT rfl rfl rfl (g_mS rfl rfl ?_);iterate 5 refine gk_ ?_
   refine g_pT rfl rfl rfl (g_mS rfl rfl ?_);iterate 4 refine gk_ ?_
   refine zAF rfl rfl rfl (zCO rfl rfl rfl (g_pT rfl rfl rfl (g_end (ds := [33, 34, 35, 36, 37, 40, 41, 42, 43, 44, 47, 48, 49, 50, 51, 54, 55, 56, 57, 58, 61, 62, 63, 64, 65, 66]) rfl rfl (hK17 _ ?_)))); clear hK17 K17;refine zAt (t := true) rfl (fun _ => ?_) nofun;refine zAa rfl fun K21 hK21 => p_aS rfl (p_end (hK21 _ ?_)); clear hK21 K21;refine zAh (zAc (zAk (zAP (zAc (zAk (end1 (v := .sc _) rfl ?_))))));exact out_b (decide_eq_false (by first | (intro hc; subst hc; omega) | exact zFn hx hy (fun e => by subst e; first | exact absurd rfl (by assumption) | (simp at *; done) | fail))).symm
  have hb20R := hb20; try simp only [zz] at hb20
  refine g_e rfl (e_faQ pl6 rfl) (g_e rfl (e_lH (v := .sc _) rfl (h1_ w_) rfl) (g_e rfl (e_faQ pl6 rfl) (g_e rfl (e_lH (v := .sc _) rfl w_ rfl) (g_e rfl (e_ne rfl rfl) (g_pF rfl rfl rfl (g_mS rfl rfl ?_))))));refine zAw (fun hb22 => ?_) (fun hb22 => ?_)
  ·have hb22R := hb22; try simp only [zz] at hb22
   iterate 5 refine gk_ ?_
   refine g_pT rfl rfl rfl (g_mS rfl rfl ?_);iterate 5 refine gk_ ?_
   refine g_pT rfl rfl rfl (g_mS rfl rfl ?_);iterate 4 refine gk_ ?_
   refine zAF rfl rfl rfl (zCO rfl rfl rfl (g_pT rfl rfl rfl (g_end (ds := [33, 34, 35, 36, 37, 40, 41, 42, 43, 44, 47, 48, 49, 50, 51, 54, 55, 56, 57, 58, 61, 62, 63, 64, 65, 66]) rfl rfl (hK17 _ ?_)))); clear hK17 K17;refine zAt (t := true) rfl (fun _ => ?_) nofun;refine zAa rfl fun K23 hK23 => p_aS rfl (p_end (hK23 _ ?_)); clear hK23 K23;refine zAh (zAc (zAk (zAP (zAc (zAk (end1 (v := .sc _) rfl ?_))))));exact out_b (decide_eq_false (by first | (intro hc; subst hc; omega) | exact zFn hx hy (fun e => by subst e; first | exact absurd rfl (by assumption) | (simp at *; done) | fail))).symm
  have hb22R := hb22; try simp only [zz] at hb22
  refine g_e rfl (e_faQ pl6 rfl) (g_e rfl (e_lH (v := .sc _) rfl (h1_ w_) rfl) (g_e rfl (e_faQ pl6 rfl) (g_e rfl (e_lH (v := .sc _) rfl w_ rfl) (g_e rfl (e_ne rfl rfl) (g_pF rfl rfl rfl (g_mS rfl rfl ?_))))));refine zAw (fun hb24 => ?_) (fun hb24 => ?_)
  ·have hb24R := hb24; try simp only [zz] at hb24
   iterate 5 refine gk_ ?_
   refine g_pT rfl rfl rfl (g_mS rfl rfl ?_);iterate 4 refine gk_ ?_
   refine zAF rfl rfl rfl (zCO rfl rfl rfl (g_pT rfl rfl rfl (g_end (ds := [33, 34, 35, 36, 37, 40, 41, 42, 43, 44, 47, 48, 49, 50, 51, 54, 55, 56, 57, 58, 61, 62, 63, 64, 65, 66]) rfl rfl (hK17 _ ?_)))); clear hK17 K17;refine zAt (t := true) rfl (fun _ => ?_) nofun;refine zAa rfl fun K25 hK25 => p_aS rfl (p_end (hK25 _ ?_)); clear hK25 K25;refine zAh (zAc (zAk (zAP (zAc (zAk (end1 (v := .sc _) rfl ?_))))));exact out_b (decide_eq_false (by first | (intro hc; subst hc; omega) | exact zFn hx hy (fun e => by subst e; first | exact absurd rfl (by assumption) | (simp at *; done) | fail))).symm
  have hb24R := hb24; try simp only [zz] at hb24
  refine g_e rfl (e_faQ pl6 rfl) (g_e rfl (e_lH (v := .sc _) rfl (h1_ w_) rfl) (g_e rfl (e_faQ pl6 rfl) (g_e rfl (e_lH (v := .sc _) rfl w_ rfl) (g_e rfl (e_ne rfl rfl) (g_pF rfl rfl rfl (g_mS rfl rfl ?_))))));refine zAw (fun hb26 => ?_) (fun hb26 => ?_)
  ·have hb26R := hb26; try simp only [zz] at hb26
   iterate 4 refine gk_ ?_
   refine zAF rfl rfl rfl (zCO rfl rfl rfl (g_pT rfl rfl rfl (g_end (ds := [33, 34, 35, 36, 37, 40, 41, 42, 43, 44, 47, 48, 49, 50, 51, 54, 55, 56, 57, 58, 61, 62, 63, 64, 65, 66]) rfl rfl (hK17 _ ?_)))); clear hK17 K17;refine zAt (t := true) rfl (fun _ => ?_) nofun;refine zAa rfl fun K27 hK27 => p_aS rfl (p_end (hK27 _ ?_)); clear hK27 K27;refine zAh (zAc (zAk (zAP (zAc (zAk (end1 (v := .sc _) rfl ?_))))));exact out_b (decide_eq_false (by first | (intro hc; subst hc; omega) | exact zFn hx hy (fun e => by subst e; first | exact absurd rfl (by assumption) | (simp at *; done) | fail))).symm
  have hb26R := hb26; try simp only [zz] at hb26
  refine g_e rfl (e_faQ pl6 rfl) (g_e rfl (e_lH (v := .lit _ _ _) rfl (h1_ w_) rfl) (g_e rfl (e_faQ pl6 rfl) (g_e rfl (e_lH (v := .lit _ _ _) rfl w_ rfl) (zBd rfl rfl rfl rfl (.cons zBV (.cons zBV .nil)) (IntsC _ _ (by omega)) (g_e rfl (e_not rfl) (g_pF rfl rfl rfl (g_end (ds := [33, 34, 35, 36, 37, 40, 41, 42, 43, 44, 47, 48, 49, 50, 51, 54, 55, 56, 57, 58, 61, 62, 63, 64, 65, 66]) rfl rfl (hK17 _ ?_)))))))); clear hK17 K17;refine zAt rfl (fun hb28 => ?_) (fun hb28 => ?_)
  ·have hb28R := hb28; try simp only [zz] at hb28
   refine zAa rfl fun K29 hK29 => p_aS rfl (p_end (hK29 _ ?_)); clear hK29 K29;refine zAh (zAc (zAk (zAP (zAc (zAk (end1 (v := .sc _) rfl ?_))))));exact out_b (decide_eq_false (by first | (intro hc; subst hc; omega) | exact zFn hx hy (fun e => by subst e; first | exact absurd rfl (by assumption) | (simp at *; done) | fail))).symm
  have hb28R := hb28; try simp only [zz] at hb28
  refine zAl (zAj (zAb (hK15 _ ?_))); clear hK15 K15;refine zAn rfl fun K30 hK30 => p_mS rfl (p_e rfl (e_adL rfl rfl) (p_aS rfl (p_end (hK30 _ ?_)))); clear hK30 K30;exact zAo (k + 1) (by show _ < _; omega) ⟨rfl, rfl, trivial⟩ ⟨rfl, trivial⟩ (by exact ⟨by show _ + 1 ≤ _; omega, by (have e := task_eq (x := x) (y := y) (by first | assumption | exact of_decide_eq_true (by assumption) | (simp_all; done) | fail) (by first | assumption | exact of_decide_eq_true (by assumption) | (simp_all; done) | fail) (by first | assumption | exact of_decide_eq_true (by assumption) | (simp_all; done) | fail) (by first | assumption | exact of_decide_eq_true (by assumption) | (simp_all; done) | fail) (by first | assumption | exact of_decide_eq_true (by assumption) | (simp_all; done) | fail) (by first | assumption | exact of_decide_eq_true (by assumption) | (simp_all; done) | fail); rw [ht, hty, he, e])⟩)
 have hb14R := hb14; try simp only [zz] at hb14
 obtain rfl : k = xs.length := by simp only [lM] at *; omega
 refine zAJ (zAK ?_);clear hK13 K13;refine zAC (zAA (zAb (hK7 _ ?_))); clear hK7 K7;refine zAa rfl fun K31 hK31 => p_aS rfl (p_end (hK31 _ ?_)); clear hK31 K31;refine zAh (end1 (v := .sc _) rfl ?_);exact out_b (decide_eq_true (same_yes (by omega) he (by omega))).symm
theorem zJw {xs : List Task} : Raises [.lit true 6 (xs.map Task.encF)] [.lit true 6 (xs.map Task.enc)] := by
 refine .cons (.row (by simp) fun i row row' h1 h2 => ?_) .nil;rw [List.getElem?_map] at h1 h2;cases hx : xs[i]? with
 | none => rw [hx] at h1; cases h1
 | some x =>
   rw [hx] at h1 h2; cases h1; cases h2;refine .cons (.same _) (.cons (.same _) (.cons (.same _) (.cons (.same _) (.cons (.same _) (.cons (.row rfl fun i row row' h1 h2 => ?_) .nil)))));rw [h1] at h2; cases h2;exact sameR row
theorem raiseF2 {xs ys : List Task} : Raises [.lit true 6 (xs.map Task.encF), .lit true 6 (ys.map Task.encF)] [.lit true 6 (xs.map Task.enc), .lit true 6 (ys.map Task.enc)] := by
 have h1 := zJw (xs := xs);have h2 := zJw (xs := ys);cases h1 with
 | cons a _ => exact .cons a h2
theorem orderF {s : Scaffold} (hsc : scfE s = 0) (hs2 : s.members.length ≤ 40) : PCalls Tryz.prog 9 [.lit true 6 ((fsT s).map Task.encF)] (.tup [.lit false 1 ((ordR (ndX (fsT s))).map ci), .int 0]) := by
 have h := PCalls.raise (zME (fsT s) (by rw [zDA]; omega) (zLg hs2)) zJw;rw [ordX, if_neg (fun q => q (fs_plan hsc hs2))] at h;exact h
theorem sameF {s : Scaffold} (hs2 : s.members.length ≤ 40) : PCalls Tryz.prog 10 [.lit true 6 ((fsT s).map Task.encF), .lit true 6 ((fsT s).map Task.encF)] (.bool true) := by
 have h := PCalls.raise (SameTasksC (fsT s) (fsT s) (by rw [zDA]; omega) (fun x hx => by have := (zLg hs2 x hx).1; omega)) raiseF2;rw [decide_eq_true rfl] at h;exact h
theorem hScfE (s : Scaffold) (hs1 : s.nodes.length ≤ 9223372036854775807) (hs2 : s.members.length ≤ 9223372036854775807) (hsc : scfE s ≠ 0) : PCalls Tryz.prog 3 [.agg s.enc] (.bool true) := by
 refine pco Tryz.func3 rfl rfl (.sc _) (zAa rfl fun K1 hK1 => p_new rfl (e_box (n := 2) rfl rfl) ⟨rfl, by decide⟩ (p_aS rfl (p_end (hK1 _ ?_)))); clear hK1 K1;refine zAf (zAa rfl fun K2 hK2 => zBs rfl .nil (awake) (p_e rfl (e_not rfl) (p_end (hK2 _ ?_)))); clear hK2 K2;refine zAe (t := false) rfl fun K3 hK3 => ⟨nofun, fun _ => ?_⟩
 refine zAl (zAb (hK3 _ ?_)); clear hK3 K3;refine zAf (zAa rfl fun K4 hK4 => p_e rfl (e_lA (cs := Scaffold.enc (s)) (n := 2) rfl w_) (zBs rfl (.cons (zAx (Scaffold.pure _)) .nil) (zKm s hs1 hs2) (p_e rfl (e_not rfl) (p_end (hK4 _ ?_))))); clear hK4 K4;refine zAe rfl fun K5 hK5 => ⟨fun hb6 => ?_, fun hb6 => ?_⟩
 ·try simp only [zz] at hb6
  refine zAa rfl fun K7 hK7 => p_aS rfl (p_end (hK7 _ ?_)); clear hK7 K7;refine zAh (zAk (end1 (v := .sc _) rfl (out_b ?_)));rfl
 try simp only [zz] at hb6
 refine zAl (zAb (hK5 _ ?_)); clear hK5 K5;have hsm := zKR.1 (by assumption);refine zAa rfl fun K8 hK8 => p_e rfl (e_lA (cs := Scaffold.enc (s)) (n := 2) rfl w_) (zBs rfl (.cons (zAx (Scaffold.pure _)) .nil) (fromE s hsm.1 hsm.2 hsc) (p_e rfl (zAi (v := .tup _) rfl) (p_e rfl (e_ext (v := .lit _ _ _) rfl (by simp) rfl) (p_e rfl (e_ext (v := .sc _) rfl (by simp) rfl) (p_e rfl (zAs (v := .lit _ _ _) rfl) (p_aS rfl ?_))))));refine p_end (hK8 _ ?_); clear hK8 K8;refine zAf (zAa rfl fun K9 hK9 => p_e rfl (e_lA (cs := Scaffold.enc (s)) (n := 2) rfl w_) (zBs rfl (.cons (zAx (Scaffold.pure _)) .nil) (zKZ s (by omega) (by omega)) (p_aS rfl (p_end (hK9 _ ?_))))); clear hK9 K9;refine zAf (zAa rfl fun K10 hK10 => p_mS rfl (p_e rfl (e_neT rfl rfl hsc) (p_end (hK10 _ ?_)))); clear hK10 K10;refine zAe (t := true) rfl fun K11 hK11 => ⟨fun _ => ?_, nofun⟩
 refine zAm rfl fun K12 hK12 => zAM (g_mS rfl rfl (g_mS rfl rfl (g_e rfl (e_eq rfl rfl) (g_mS rfl rfl ?_))));refine zAw (fun hb13 => ?_) (fun hb13 => ?_)
 ·try simp only [zz] at hb13
  refine g_e rfl (zAi (v := .lit _ _ _) rfl) (g_e rfl (e_len rfl (by kernel_rfl)) (g_e rfl (e_eq rfl rfl) (g_pT rfl rfl rfl (g_aS rfl rfl (g_end (ds := [26, 27, 28]) rfl rfl (hK12 _ ?_)))))); clear hK12 K12;refine zAh (zAk (end1 (v := .sc _) rfl (out_b ?_)));rfl
 try simp only [zz] at hb13
 iterate 3 refine gk_ ?_
 refine g_pF rfl rfl rfl (g_aS rfl rfl (g_end (ds := [26, 27, 28]) rfl rfl (hK12 _ ?_))); clear hK12 K12;refine zAh (zAk (end1 (v := .sc _) rfl (out_b ?_)))
 (exfalso; first | omega | (simp_all; done))
theorem hScf0 (s : Scaffold) (hs1 : s.nodes.length ≤ 9223372036854775807) (hs2 : s.members.length ≤ 9223372036854775807) (hsc : scfE s = 0) : PCalls Tryz.prog 3 [.agg s.enc] (.bool true) := by
 refine pco Tryz.func3 rfl rfl (.sc _) (zAa rfl fun K1 hK1 => p_new rfl (e_box (n := 2) rfl rfl) ⟨rfl, by decide⟩ (p_aS rfl (p_end (hK1 _ ?_)))); clear hK1 K1;refine zAf (zAa rfl fun K2 hK2 => zBs rfl .nil (awake) (p_e rfl (e_not rfl) (p_end (hK2 _ ?_)))); clear hK2 K2;refine zAe (t := false) rfl fun K3 hK3 => ⟨nofun, fun _ => ?_⟩
 refine zAl (zAb (hK3 _ ?_)); clear hK3 K3;refine zAf (zAa rfl fun K4 hK4 => p_e rfl (e_lA (cs := Scaffold.enc (s)) (n := 2) rfl w_) (zBs rfl (.cons (zAx (Scaffold.pure _)) .nil) (zKm s hs1 hs2) (p_e rfl (e_not rfl) (p_end (hK4 _ ?_))))); clear hK4 K4;refine zAe rfl fun K5 hK5 => ⟨fun hb6 => ?_, fun hb6 => ?_⟩
 ·try simp only [zz] at hb6
  refine zAa rfl fun K7 hK7 => p_aS rfl (p_end (hK7 _ ?_)); clear hK7 K7;refine zAh (zAk (end1 (v := .sc _) rfl (out_b ?_)));rfl
 try simp only [zz] at hb6
 refine zAl (zAb (hK5 _ ?_)); clear hK5 K5;have hsm := zKR.1 (by assumption);have hol := zMs hsc;have htl := zDA (s := s);refine zAa rfl fun K8 hK8 => p_e rfl (e_lA (cs := Scaffold.enc (s)) (n := 2) rfl w_) (zBs rfl (.cons (zAx (Scaffold.pure _)) .nil) (from0 s hsm.1 hsm.2 hsc) (p_e rfl (zAi (v := .tup _) rfl) (p_e rfl (e_ext (v := .lit _ _ _) rfl (by simp) rfl) (p_e rfl (e_ext (v := .sc _) rfl (by simp) rfl) (p_e rfl (zAs (v := .lit _ _ _) rfl) (p_aS rfl ?_))))));refine p_end (hK8 _ ?_); clear hK8 K8;refine zAf (zAa rfl fun K9 hK9 => p_e rfl (e_lA (cs := Scaffold.enc (s)) (n := 2) rfl w_) (zBs rfl (.cons (zAx (Scaffold.pure _)) .nil) (zKZ s (by omega) (by omega)) (p_aS rfl (p_end (hK9 _ ?_))))); clear hK9 K9;refine zAf (zAa rfl fun K10 hK10 => p_mS rfl (p_e rfl (e_neF rfl rfl hsc) (p_end (hK10 _ ?_)))); clear hK10 K10;refine zAe (t := false) rfl fun K11 hK11 => ⟨nofun, fun _ => ?_⟩
 refine zAl (zAb (hK11 _ ?_)); clear hK11 K11;refine zAa rfl fun K12 hK12 => p_e rfl (zAi (v := .lit _ _ _) rfl) (zBs rfl (.cons zBV .nil) (orderF hsc hsm.2) (p_e rfl (zAi (v := .tup _) rfl) (p_e rfl (e_ext (v := .lit _ _ _) rfl (by simp) rfl) (p_e rfl (e_ext (v := .sc _) rfl (by simp) rfl) (p_e rfl (zAs (v := .lit _ _ _) rfl) (p_aS rfl ?_))))));refine p_end (hK12 _ ?_); clear hK12 K12;refine zAm rfl fun K13 hK13 => zAM (g_mS rfl rfl (g_e rfl (e_eq rfl rfl) (g_mS rfl rfl ?_)));refine zAw (fun hb14 => ?_) (fun hb14 => ?_)
 ·have hb14T := hb14; try simp only [zz] at hb14
  refine g_e rfl (zAi (v := .lit _ _ _) rfl) (g_e rfl (e_lA (cs := Scaffold.enc (s)) (n := 2) rfl w_) (zBd rfl rfl rfl rfl (.cons (zAx (Scaffold.pure _)) .nil) (refScaffoldC s hsc (by omega) hsm.2) (zBd rfl rfl rfl rfl (.cons zBV (.cons zBV .nil)) (sameF hsm.2) (g_pT rfl rfl rfl (g_mS rfl rfl (g_mS rfl rfl (g_e rfl (e_eq rfl rfl) ?_)))))));refine g_pT rfl rfl rfl (g_mS rfl rfl (zAw (fun _ => ?_) (fun q => nomatch hb14T.symm.trans q)));refine g_e rfl (zAi (v := .lit _ _ _) rfl) (g_e rfl (e_len rfl (by kernel_rfl)) (g_e rfl (zAi (v := .lit _ _ _) rfl) (g_e rfl (e_len rfl (by kernel_rfl)) (g_e rfl (e_eq rfl rfl) (g_pT rfl rfl rfl (g_aS rfl rfl (g_end (ds := [38, 39, 40, 41, 44, 45, 48, 49, 50, 51, 52]) rfl rfl (hK13 _ ?_)))))))); clear hK13 K13;refine zAh (end1 (v := .sc _) rfl (out_b ?_))
  (simp; omega)
 try simp only [zz] at hb14
 iterate 2 refine gk_ ?_
 refine zAF rfl rfl rfl (zAF rfl rfl rfl (g_pF rfl rfl rfl (g_mS rfl rfl ?_)));iterate 2 refine gk_ ?_
 refine g_pF rfl rfl rfl (g_mS rfl rfl ?_);iterate 5 refine gk_ ?_
 refine g_pF rfl rfl rfl (g_aS rfl rfl (g_end (ds := [38, 39, 40, 41, 44, 45, 48, 49, 50, 51, 52]) rfl rfl (hK13 _ ?_))); clear hK13 K13;refine zAh (end1 (v := .sc _) rfl (out_b ?_))
 (exfalso; first | omega | (simp_all; done))
theorem hScaffolds (s : Scaffold) (hs1 : s.nodes.length ≤ 9223372036854775807) (hs2 : s.members.length ≤ 9223372036854775807) : PCalls Tryz.prog 3 [.agg s.enc] (.bool true) := by
 by_cases h : scfE s = 0
 · exact hScf0 s hs1 hs2 h
 · exact hScfE s hs1 hs2 h
end Go.Proofs.YtnbcmoaofmkjhaaGreatDoor.E7
