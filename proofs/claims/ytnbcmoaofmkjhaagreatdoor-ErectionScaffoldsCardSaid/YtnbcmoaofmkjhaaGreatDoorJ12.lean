import Derived.Test.YtnbcmoaofmkjhaaGreatDoorJ11
import Derived.Test.YtnbcmoaofmkjhaaGreatDoorPvGh
set_option linter.unusedSimpArgs false
set_option linter.unusedVariables false
set_option maxRecDepth 100000
namespace Go.Proofs.YtnbcmoaofmkjhaaGreatDoor.E7
open Go Go.Pv Go.Proofs.YtnbcmoaofmkjhaaGreatDoor
theorem zET {a b n : Node} : -1 ≤ corI (crn a b) n ∧ corI (crn a b) n ≤ 3 := by
 unfold corI ixA;split
 · rename_i i hi;obtain ⟨hlt, _⟩ := List.findIdx?_eq_some_iff_getElem.1 hi;have : (crn a b).length = 4 := rfl;omega
 · omega
theorem zH4 {s : Scaffold} {m : Member} : cor4 s m = crn (nA s m.a) (nA s m.b) := rfl
theorem nl {h : Heap} {a : Bool} {s : Scaffold} {m o : Member} (hx : a = ndB s m o := by (unfold ndB; simp only [zH4, hxa, hxb, hya, hyb]; repeat (first | rw [if_pos (by omega)] | rw [if_neg (by omega)]); first | (simp_all; done) | (rw [Bool.eq_iff_iff]; simp_all; omega) | (rw [Bool.eq_iff_iff]; simp_all; done))) : Out h (.bool a) (.bool (ndB s m o)) := out_b hx
theorem needsOfC (s : Scaffold) (m o : Member) (na nb oa ob : Node) (hsc : scfE s = 0) (hs1 : s.nodes.length ≤ 1000) (hs2 : s.members.length ≤ 4000) (hma : 0 ≤ m.a ∧ m.a < (s.nodes.length : Int)) (hmb : 0 ≤ m.b ∧ m.b < (s.nodes.length : Int)) (hna : s.nodes[m.a.toNat]? = some na) (hnb : s.nodes[m.b.toNat]? = some nb) (hoa : 0 ≤ o.a ∧ o.a < (s.nodes.length : Int)) (hob : 0 ≤ o.b ∧ o.b < (s.nodes.length : Int)) (hoA : s.nodes[o.a.toNat]? = some oa) (hoB : s.nodes[o.b.toNat]? = some ob) : PCalls Tryz.prog 37 [.agg s.enc, .agg m.enc, .agg o.enc] (.bool (ndB s m o)) := by
 refine pco Tryz.func37 rfl rfl (.sc _) ?_;have hxa := nA_at hna;have hxb := nA_at hnb;have hya := nA_at hoA;have hyb := nA_at hoB;refine zAa rfl fun K1 hK1 => p_new rfl (e_box (n := 2) rfl rfl) ⟨rfl, by decide⟩ (p_new rfl (e_box (n := 3) rfl rfl) ⟨rfl, by decide⟩ (p_new rfl (e_box (n := 3) rfl rfl) ⟨rfl, by decide⟩ (p_aS rfl (p_end (hK1 _ ?_))))); clear hK1 K1;refine zAm rfl fun K2 hK2 => zA0 (s_eR [3] rfl (e_lA (cs := Scaffold.enc (s)) (n := 2) rfl (h2_ w_)) (s_eR [4] rfl (e_lA (cs := Member.enc (m)) (n := 3) rfl (h1_ w_)) (zDS (args := [.agg _, .agg _]) [] (by intro k hk; simp [zBF, Go.Pv.keyOf, Member.enc, Scaffold.enc] at hk; try (first | (subst hk; simp; done) | (rcases hk with rfl | rfl <;> simp; done))) rfl rfl rfl rfl (.cons (zAx (Scaffold.pure _)) (.cons (zAx (Member.pure _)) .nil)) (lowC _ _ _ (by first | exact hma | exact hoa) (by first | exact hna | exact hoA)) (s_eR [3] rfl (e_lA (cs := Scaffold.enc (s)) (n := 2) rfl (h2_ w_)) (s_eR [4] rfl (e_lA (cs := Member.enc (m)) (n := 3) rfl (h1_ w_)) (zDS (args := [.agg _, .agg _]) [] (by intro k hk; simp [zBF, Go.Pv.keyOf, Member.enc, Scaffold.enc] at hk; try (first | (subst hk; simp; done) | (rcases hk with rfl | rfl <;> simp; done))) rfl rfl rfl rfl (.cons (zAx (Scaffold.pure _)) (.cons (zAx (Member.pure _)) .nil)) (highC _ _ _ (by first | exact hmb | exact hob) (by first | exact hnb | exact hoB)) ?_))))));refine s_eR [3] rfl (e_lA (cs := Scaffold.enc (s)) (n := 2) rfl (h2_ w_)) (s_eR [5] rfl (e_lA (cs := Member.enc (o)) (n := 3) rfl w_) (zDS (args := [.agg _, .agg _]) [] (by intro k hk; simp [zBF, Go.Pv.keyOf, Member.enc, Scaffold.enc] at hk; try (first | (subst hk; simp; done) | (rcases hk with rfl | rfl <;> simp; done))) rfl rfl rfl rfl (.cons (zAx (Scaffold.pure _)) (.cons (zAx (Member.pure _)) .nil)) (lowC _ _ _ (by first | exact hma | exact hoa) (by first | exact hna | exact hoA)) (s_eR [3] rfl (e_lA (cs := Scaffold.enc (s)) (n := 2) rfl (h2_ w_)) (s_eR [5] rfl (e_lA (cs := Member.enc (o)) (n := 3) rfl w_) (zDS (args := [.agg _, .agg _]) [] (by intro k hk; simp [zBF, Go.Pv.keyOf, Member.enc, Scaffold.enc] at hk; try (first | (subst hk; simp; done) | (rcases hk with rfl | rfl <;> simp; done))) rfl rfl rfl rfl (.cons (zAx (Scaffold.pure _)) (.cons (zAx (Member.pure _)) .nil)) (highC _ _ _ (by first | exact hmb | exact hob) (by first | exact hnb | exact hoB)) (s_new [] (by simp) rfl rfl rfl rfl (zAR (cs := [.int 0, .int 0, .int 0]) (n := 3) (by kernel_rfl) rfl (by decide)) (zAG (by decide)) (s_new [] (by simp) rfl rfl rfl rfl (zAR (cs := [.int 0, .int 0, .int 0]) (n := 3) (by kernel_rfl) rfl (by decide)) (zAG (by decide)) ?_)))))));refine s_new [] (by simp) rfl rfl rfl rfl (zAR (cs := [.int 0, .int 0, .int 0]) (n := 3) (by kernel_rfl) rfl (by decide)) (zAG (by decide)) (s_new [] (by simp) rfl rfl rfl rfl (zAR (cs := [.int 0, .int 0, .int 0]) (n := 3) (by kernel_rfl) rfl (by decide)) (zAG (by decide)) (zA4 [7] (by simp) rfl rfl (zAB rfl (h3_ w_) rfl rfl rfl (by kernel_rfl) rfl (by kernel_rfl)) trivial (zA4 [8] (by simp) rfl rfl (zAB rfl (h3_ w_) rfl rfl rfl (by kernel_rfl) rfl (by kernel_rfl)) trivial (zA4 [9] (by simp) rfl rfl (zAB rfl (h3_ w_) rfl rfl rfl (by kernel_rfl) rfl (by kernel_rfl)) trivial (zA4 [10] (by simp) rfl rfl (zAB rfl (h3_ w_) rfl rfl rfl (by kernel_rfl) rfl (by kernel_rfl)) trivial (s_end (ds := []) (by kernel_rfl) (by kernel_rfl) (hK2 _ ?_))))))); clear hK2 K2;refine zAf (zAa rfl fun K3 hK3 => p_e rfl (e_faQ pl3 rfl) (p_e rfl (e_lH (v := .sc _) rfl (h1_ (h4_ (h4_ w_))) rfl) (p_end (hK3 _ ?_)))); clear hK3 K3;refine zAg fun K4 hK4 => zAa rfl fun K5 hK5 => p_e rfl (e_eq rfl rfl) (p_aS rfl (p_end (hK5 _ ?_))); clear hK5 K5;refine zAt rfl (fun hb6 => ?_) (fun hb6 => ?_)
 ·have hb6T := hb6; try simp only [zz] at hb6
  refine zAa rfl fun K7 hK7 => p_e rfl (e_faQ pl3 rfl) (p_e rfl (e_lH (v := .sc _) rfl (h4_ (h4_ w_)) rfl) (p_end (hK7 _ ?_))); clear hK7 K7;refine zB2 (zAf (zAa rfl fun K8 hK8 => p_e rfl (e_eq rfl rfl) (p_aS rfl (p_end (hK8 _ ?_))))); clear hK8 K8;refine zAe rfl fun K9 hK9 => ⟨fun hb10 => ?_, fun hb10 => ?_⟩
  ·have hb10T := hb10; try simp only [zz] at hb10
   refine zAl (zAb (hK9 _ ?_)); clear hK9 K9;refine zAt rfl (fun _ => ?_) (fun q => nomatch hb10T.symm.trans q);refine zAm rfl fun K11 hK11 => zAM (g_e rfl (e_lA (cs := Node.enc (na)) (n := 3) rfl (h3_ w_)) (g_e rfl (e_lA (cs := Node.enc (oa)) (n := 3) rfl (h1_ w_)) (zBd rfl rfl rfl rfl (.cons (zAx (Node.pure _)) (.cons (zAx (Node.pure _)) .nil)) (zE3 _ _) (g_mS rfl rfl ?_))));refine zAw (fun hb12 => ?_) (fun hb12 => ?_)
   ·have hb12T := hb12; try simp only [zz] at hb12
    refine g_e rfl (e_faQ pl3 rfl) (g_e rfl (e_lH (v := .sc _) rfl (h1_ w_) rfl) (g_e rfl (e_faQ pl3 rfl) (g_e rfl (e_lH (v := .sc _) rfl (h3_ w_) rfl) (g_e rfl (e_le rfl rfl) (g_pT rfl rfl rfl (g_aS rfl rfl (g_end (ds := [40, 41, 42, 43, 44]) rfl rfl (hK11 _ ?_)))))))); clear hK11 K11;refine zAh (zAc (zAc (zAk (end1 (v := .sc _) rfl ?_))));exact nl
   have hb12F := hb12; try simp only [zz] at hb12
   iterate 5 refine gk_ ?_
   refine g_pF rfl rfl rfl (g_aS rfl rfl (g_end (ds := [40, 41, 42, 43, 44]) rfl rfl (hK11 _ ?_))); clear hK11 K11;refine zAh (zAc (zAc (zAk (end1 (v := .sc _) rfl ?_))));exact nl
  have hb10F := hb10; try simp only [zz] at hb10
  refine zAn rfl fun K13 hK13 => p_e rfl (e_eq rfl rfl) (p_aS rfl (p_end (hK13 _ ?_))); clear hK13 K13;refine zAb (hK9 _ ?_); clear hK9 K9;refine zAt rfl (fun hb14 => ?_) (fun hb14 => ?_)
  ·have hb14T := hb14; try simp only [zz] at hb14
   refine zAm rfl fun K15 hK15 => zAM (g_e rfl (e_lA (cs := Node.enc (na)) (n := 3) rfl (h3_ w_)) (g_e rfl (e_lA (cs := Node.enc (oa)) (n := 3) rfl (h1_ w_)) (zBd rfl rfl rfl rfl (.cons (zAx (Node.pure _)) (.cons (zAx (Node.pure _)) .nil)) (zE3 _ _) (g_mS rfl rfl ?_))));refine zAw (fun hb16 => ?_) (fun hb16 => ?_)
   ·have hb16T := hb16; try simp only [zz] at hb16
    refine g_e rfl (e_faQ pl3 rfl) (g_e rfl (e_lH (v := .sc _) rfl (h1_ w_) rfl) (g_e rfl (e_faQ pl3 rfl) (g_e rfl (e_lH (v := .sc _) rfl (h3_ w_) rfl) (g_e rfl (e_le rfl rfl) (g_pT rfl rfl rfl (g_aS rfl rfl (g_end (ds := [40, 41, 42, 43, 44]) rfl rfl (hK15 _ ?_)))))))); clear hK15 K15;refine zAh (zAc (zAc (zAk (end1 (v := .sc _) rfl ?_))));exact nl
   have hb16F := hb16; try simp only [zz] at hb16
   iterate 5 refine gk_ ?_
   refine g_pF rfl rfl rfl (g_aS rfl rfl (g_end (ds := [40, 41, 42, 43, 44]) rfl rfl (hK15 _ ?_))); clear hK15 K15;refine zAh (zAc (zAc (zAk (end1 (v := .sc _) rfl ?_))));exact nl
  have hb14F := hb14; try simp only [zz] at hb14
  refine zAa rfl fun K17 hK17 => p_e rfl (e_eq rfl rfl) (p_aS rfl (p_end (hK17 _ ?_))); clear hK17 K17;refine zAt rfl (fun hb18 => ?_) (fun hb18 => ?_)
  ·have hb18T := hb18; try simp only [zz] at hb18
   refine zAa rfl fun K19 hK19 => p_e rfl (e_lA (cs := Node.enc (ob)) (n := 3) rfl w_) (p_e rfl (e_lA (cs := Node.enc (na)) (n := 3) rfl (h3_ w_)) (p_e rfl (e_aeq rfl rfl (by kernel_rfl) (zAI (ob) (na)) (zAO (ob) (na))) (p_aS rfl (p_end (hK19 _ ?_))))); clear hK19 K19;refine zAh (zAc (zAc (zAk (end1 (v := .sc _) rfl ?_))));exact nl
  have hb18F := hb18; try simp only [zz] at hb18
  refine zAf (zAa rfl fun K20 hK20 => p_e rfl (e_eq rfl rfl) (p_aS rfl (p_end (hK20 _ ?_)))); clear hK20 K20;refine zAe rfl fun K21 hK21 => ⟨fun hb22 => ?_, fun hb22 => ?_⟩
  ·have hb22T := hb22; try simp only [zz] at hb22
   refine zAl (zAb (hK21 _ ?_)); clear hK21 K21;refine zAt rfl (fun _ => ?_) (fun q => nomatch hb22T.symm.trans q);refine zAm rfl fun K23 hK23 => zAM (g_e rfl (e_lA (cs := Node.enc (oa)) (n := 3) rfl (h1_ w_)) (g_e rfl (e_lA (cs := Node.enc (na)) (n := 3) rfl (h3_ w_)) (g_e rfl (e_aeq rfl rfl (by kernel_rfl) (zAI (oa) (na)) (zAO (oa) (na))) (g_mS rfl rfl ?_))));refine zAw (fun hb24 => ?_) (fun hb24 => ?_)
   ·have hb24T := hb24; try simp only [zz] at hb24
    iterate 3 refine gk_ ?_
    refine g_pT rfl rfl rfl (g_mS rfl rfl (g_e rfl (e_lA (cs := Scaffold.enc (s)) (n := 2) rfl (h2_ (h4_ (h4_ w_)))) (g_e rfl (e_lA (cs := Node.enc (na)) (n := 3) rfl (h3_ w_)) (zBd rfl rfl rfl rfl (.cons (zAx (Scaffold.pure _)) (.cons (zAx (Node.pure _)) (.cons zAY .nil))) (zBq _ _ hsc hs1 hs2) (g_pT rfl rfl rfl (g_aS rfl rfl (g_end (ds := [58, 59, 60, 63, 64, 65]) rfl rfl (hK23 _ ?_)))))))); clear hK23 K23;refine zAh (zAc (zAc (zAk (end1 (v := .sc _) rfl ?_))));exact nl
   have hb24F := hb24; try simp only [zz] at hb24
   refine g_e rfl (e_lA (cs := Node.enc (ob)) (n := 3) rfl w_) (g_e rfl (e_lA (cs := Node.enc (na)) (n := 3) rfl (h3_ w_)) (g_e rfl (e_aeq rfl rfl (by kernel_rfl) (zAI (ob) (na)) (zAO (ob) (na))) (g_pF rfl rfl rfl (g_mS rfl rfl ?_))));refine zAw (fun hb25 => ?_) (fun hb25 => ?_)
   ·have hb25T := hb25; try simp only [zz] at hb25
    refine g_e rfl (e_lA (cs := Scaffold.enc (s)) (n := 2) rfl (h2_ (h4_ (h4_ w_)))) (g_e rfl (e_lA (cs := Node.enc (na)) (n := 3) rfl (h3_ w_)) (zBd rfl rfl rfl rfl (.cons (zAx (Scaffold.pure _)) (.cons (zAx (Node.pure _)) (.cons zAY .nil))) (zBq _ _ hsc hs1 hs2) (g_pT rfl rfl rfl (g_aS rfl rfl (g_end (ds := [58, 59, 60, 63, 64, 65]) rfl rfl (hK23 _ ?_)))))); clear hK23 K23;refine zAh (zAc (zAc (zAk (end1 (v := .sc _) rfl ?_))));exact nl
   have hb25F := hb25; try simp only [zz] at hb25
   iterate 2 refine gk_ ?_
   refine zAF rfl rfl rfl (g_pF rfl rfl rfl (g_aS rfl rfl (g_end (ds := [58, 59, 60, 63, 64, 65]) rfl rfl (hK23 _ ?_)))); clear hK23 K23;refine zAh (zAc (zAc (zAk (end1 (v := .sc _) rfl ?_))));exact nl
  have hb22F := hb22; try simp only [zz] at hb22
  refine zAn rfl fun K26 hK26 => p_e rfl (e_eq rfl rfl) (p_aS rfl (p_end (hK26 _ ?_))); clear hK26 K26;refine zAb (hK21 _ ?_); clear hK21 K21;refine zAt rfl (fun hb27 => ?_) (fun hb27 => ?_)
  ·have hb27T := hb27; try simp only [zz] at hb27
   refine zAm rfl fun K28 hK28 => zAM (g_e rfl (e_lA (cs := Node.enc (oa)) (n := 3) rfl (h1_ w_)) (g_e rfl (e_lA (cs := Node.enc (na)) (n := 3) rfl (h3_ w_)) (g_e rfl (e_aeq rfl rfl (by kernel_rfl) (zAI (oa) (na)) (zAO (oa) (na))) (g_mS rfl rfl ?_))));refine zAw (fun hb29 => ?_) (fun hb29 => ?_)
   ·have hb29T := hb29; try simp only [zz] at hb29
    iterate 3 refine gk_ ?_
    refine g_pT rfl rfl rfl (g_mS rfl rfl (g_e rfl (e_lA (cs := Scaffold.enc (s)) (n := 2) rfl (h2_ (h4_ (h4_ w_)))) (g_e rfl (e_lA (cs := Node.enc (na)) (n := 3) rfl (h3_ w_)) (zBd rfl rfl rfl rfl (.cons (zAx (Scaffold.pure _)) (.cons (zAx (Node.pure _)) (.cons zAY .nil))) (zBq _ _ hsc hs1 hs2) (g_pT rfl rfl rfl (g_aS rfl rfl (g_end (ds := [58, 59, 60, 63, 64, 65]) rfl rfl (hK28 _ ?_)))))))); clear hK28 K28;refine zAh (zAc (zAc (zAk (end1 (v := .sc _) rfl ?_))));exact nl
   have hb29F := hb29; try simp only [zz] at hb29
   refine g_e rfl (e_lA (cs := Node.enc (ob)) (n := 3) rfl w_) (g_e rfl (e_lA (cs := Node.enc (na)) (n := 3) rfl (h3_ w_)) (g_e rfl (e_aeq rfl rfl (by kernel_rfl) (zAI (ob) (na)) (zAO (ob) (na))) (g_pF rfl rfl rfl (g_mS rfl rfl ?_))));refine zAw (fun hb30 => ?_) (fun hb30 => ?_)
   ·have hb30T := hb30; try simp only [zz] at hb30
    refine g_e rfl (e_lA (cs := Scaffold.enc (s)) (n := 2) rfl (h2_ (h4_ (h4_ w_)))) (g_e rfl (e_lA (cs := Node.enc (na)) (n := 3) rfl (h3_ w_)) (zBd rfl rfl rfl rfl (.cons (zAx (Scaffold.pure _)) (.cons (zAx (Node.pure _)) (.cons zAY .nil))) (zBq _ _ hsc hs1 hs2) (g_pT rfl rfl rfl (g_aS rfl rfl (g_end (ds := [58, 59, 60, 63, 64, 65]) rfl rfl (hK28 _ ?_)))))); clear hK28 K28;refine zAh (zAc (zAc (zAk (end1 (v := .sc _) rfl ?_))));exact nl
   have hb30F := hb30; try simp only [zz] at hb30
   iterate 2 refine gk_ ?_
   refine zAF rfl rfl rfl (g_pF rfl rfl rfl (g_aS rfl rfl (g_end (ds := [58, 59, 60, 63, 64, 65]) rfl rfl (hK28 _ ?_)))); clear hK28 K28;refine zAh (zAc (zAc (zAk (end1 (v := .sc _) rfl ?_))));exact nl
  have hb27F := hb27; try simp only [zz] at hb27
  refine zAa rfl fun K31 hK31 => p_e rfl (e_eq rfl rfl) (p_aS rfl (p_end (hK31 _ ?_))); clear hK31 K31;refine zAt rfl (fun hb32 => ?_) (fun hb32 => ?_)
  ·have hb32T := hb32; try simp only [zz] at hb32
   refine zAm rfl fun K33 hK33 => zAM (g_e rfl (e_lA (cs := Node.enc (ob)) (n := 3) rfl w_) (g_e rfl (e_lA (cs := Node.enc (na)) (n := 3) rfl (h3_ w_)) (g_e rfl (e_aeq rfl rfl (by kernel_rfl) (zAI (ob) (na)) (zAO (ob) (na))) (g_mS rfl rfl ?_))));refine zAw (fun hb34 => ?_) (fun hb34 => ?_)
   ·have hb34T := hb34; try simp only [zz] at hb34
    refine g_e rfl (e_lA (cs := Scaffold.enc (s)) (n := 2) rfl (h2_ (h4_ (h4_ w_)))) (g_e rfl (e_lA (cs := Node.enc (na)) (n := 3) rfl (h3_ w_)) (zBd rfl rfl rfl rfl (.cons (zAx (Scaffold.pure _)) (.cons (zAx (Node.pure _)) (.cons zAY .nil))) (zBq _ _ hsc hs1 hs2) (g_pT rfl rfl rfl (g_aS rfl rfl (g_end (ds := [73, 74, 75]) rfl rfl (hK33 _ ?_)))))); clear hK33 K33;refine zAh (zAc (zAc (zAk (end1 (v := .sc _) rfl ?_))));exact nl
   have hb34F := hb34; try simp only [zz] at hb34
   iterate 2 refine gk_ ?_
   refine zAF rfl rfl rfl (g_pF rfl rfl rfl (g_aS rfl rfl (g_end (ds := [73, 74, 75]) rfl rfl (hK33 _ ?_)))); clear hK33 K33;refine zAh (zAc (zAc (zAk (end1 (v := .sc _) rfl ?_))));exact nl
  have hb32F := hb32; try simp only [zz] at hb32
  refine zAf (zAa rfl fun K35 hK35 => p_e rfl (e_eq rfl rfl) (p_aS rfl (p_end (hK35 _ ?_)))); clear hK35 K35;refine zAe rfl fun K36 hK36 => ⟨fun hb37 => ?_, fun hb37 => ?_⟩
  ·have hb37T := hb37; try simp only [zz] at hb37
   refine zAl (zAb (hK36 _ ?_)); clear hK36 K36;refine zAt rfl (fun _ => ?_) (fun q => nomatch hb37T.symm.trans q);refine zAm rfl fun K38 hK38 => zAM (g_e rfl (e_lA (cs := Node.enc (na)) (n := 3) rfl (h3_ w_)) (g_e rfl (e_lA (cs := Node.enc (oa)) (n := 3) rfl (h1_ w_)) (zBd rfl rfl rfl rfl (.cons (zAx (Node.pure _)) (.cons (zAx (Node.pure _)) .nil)) (zE3 _ _) (g_mS rfl rfl ?_))));refine zAw (fun hb39 => ?_) (fun hb39 => ?_)
   ·have hb39T := hb39; try simp only [zz] at hb39
    refine g_e rfl (e_faQ pl3 rfl) (g_e rfl (e_lH (v := .sc _) rfl (h1_ w_) rfl) (g_e rfl (e_faQ pl3 rfl) (g_e rfl (e_lH (v := .sc _) rfl (h3_ w_) rfl) (g_e rfl (e_lt rfl rfl) (g_pT rfl rfl rfl (g_mS rfl rfl ?_))))));refine zAw (fun hb40 => ?_) (fun hb40 => ?_)
    ·have hb40T := hb40; try simp only [zz] at hb40
     iterate 2 refine gk_ ?_
     refine zAF rfl rfl rfl ?_;iterate 7 refine gk_ ?_
     refine g_pT rfl rfl rfl (g_aS rfl rfl (g_end (ds := [84, 85, 86, 87, 88, 91, 92, 93, 94, 95, 96, 97, 98, 99, 100]) rfl rfl (hK38 _ ?_))); clear hK38 K38;refine zAh (zAc (zAc (zAk (end1 (v := .sc _) rfl ?_))));exact nl
    have hb40F := hb40; try simp only [zz] at hb40
    refine g_e rfl (e_lA (cs := Node.enc (na)) (n := 3) rfl (h3_ w_)) (g_e rfl (e_lA (cs := Node.enc (ob)) (n := 3) rfl w_) (zBd rfl rfl rfl rfl (.cons (zAx (Node.pure _)) (.cons (zAx (Node.pure _)) .nil)) (zE3 _ _) (g_mS rfl rfl ?_)));refine zAw (fun hb41 => ?_) (fun hb41 => ?_)
    ·have hb41T := hb41; try simp only [zz] at hb41
     refine g_e rfl (e_faQ pl3 rfl) (g_e rfl (e_lH (v := .sc _) rfl w_ rfl) (g_e rfl (e_faQ pl3 rfl) (g_e rfl (e_lH (v := .sc _) rfl (h3_ w_) rfl) (g_e rfl (e_lt rfl rfl) (g_pT rfl rfl rfl (g_pF rfl rfl rfl (g_aS rfl rfl ?_)))))));refine g_end (ds := [84, 85, 86, 87, 88, 91, 92, 93, 94, 95, 96, 97, 98, 99, 100]) rfl rfl (hK38 _ ?_); clear hK38 K38;refine zAh (zAc (zAc (zAk (end1 (v := .sc _) rfl ?_))));exact nl
    have hb41F := hb41; try simp only [zz] at hb41
    iterate 5 refine gk_ ?_
    refine g_pF rfl rfl rfl (g_pF rfl rfl rfl (g_aS rfl rfl (g_end (ds := [84, 85, 86, 87, 88, 91, 92, 93, 94, 95, 96, 97, 98, 99, 100]) rfl rfl (hK38 _ ?_)))); clear hK38 K38;refine zAh (zAc (zAc (zAk (end1 (v := .sc _) rfl ?_))));exact nl
   have hb39F := hb39; try simp only [zz] at hb39
   iterate 5 refine gk_ ?_
   refine g_pF rfl rfl rfl (g_mS rfl rfl (g_e rfl (e_lA (cs := Node.enc (na)) (n := 3) rfl (h3_ w_)) (g_e rfl (e_lA (cs := Node.enc (ob)) (n := 3) rfl w_) (zBd rfl rfl rfl rfl (.cons (zAx (Node.pure _)) (.cons (zAx (Node.pure _)) .nil)) (zE3 _ _) (g_mS rfl rfl ?_)))));refine zAw (fun hb42 => ?_) (fun hb42 => ?_)
   ·have hb42T := hb42; try simp only [zz] at hb42
    refine g_e rfl (e_faQ pl3 rfl) (g_e rfl (e_lH (v := .sc _) rfl w_ rfl) (g_e rfl (e_faQ pl3 rfl) (g_e rfl (e_lH (v := .sc _) rfl (h3_ w_) rfl) (g_e rfl (e_lt rfl rfl) (g_pT rfl rfl rfl (g_pF rfl rfl rfl (g_aS rfl rfl ?_)))))));refine g_end (ds := [84, 85, 86, 87, 88, 91, 92, 93, 94, 95, 96, 97, 98, 99, 100]) rfl rfl (hK38 _ ?_); clear hK38 K38;refine zAh (zAc (zAc (zAk (end1 (v := .sc _) rfl ?_))));exact nl
   have hb42F := hb42; try simp only [zz] at hb42
   iterate 5 refine gk_ ?_
   refine g_pF rfl rfl rfl (g_pF rfl rfl rfl (g_aS rfl rfl (g_end (ds := [84, 85, 86, 87, 88, 91, 92, 93, 94, 95, 96, 97, 98, 99, 100]) rfl rfl (hK38 _ ?_)))); clear hK38 K38;refine zAh (zAc (zAc (zAk (end1 (v := .sc _) rfl ?_))));exact nl
  have hb37F := hb37; try simp only [zz] at hb37
  refine zAn rfl fun K43 hK43 => p_e rfl (e_eq rfl rfl) (p_aS rfl (p_end (hK43 _ ?_))); clear hK43 K43;refine zAb (hK36 _ ?_); clear hK36 K36;refine zAt rfl (fun hb44 => ?_) (fun hb44 => ?_)
  ·have hb44T := hb44; try simp only [zz] at hb44
   refine zAm rfl fun K45 hK45 => zAM (g_e rfl (e_lA (cs := Node.enc (na)) (n := 3) rfl (h3_ w_)) (g_e rfl (e_lA (cs := Node.enc (oa)) (n := 3) rfl (h1_ w_)) (zBd rfl rfl rfl rfl (.cons (zAx (Node.pure _)) (.cons (zAx (Node.pure _)) .nil)) (zE3 _ _) (g_mS rfl rfl ?_))));refine zAw (fun hb46 => ?_) (fun hb46 => ?_)
   ·have hb46T := hb46; try simp only [zz] at hb46
    refine g_e rfl (e_faQ pl3 rfl) (g_e rfl (e_lH (v := .sc _) rfl (h1_ w_) rfl) (g_e rfl (e_faQ pl3 rfl) (g_e rfl (e_lH (v := .sc _) rfl (h3_ w_) rfl) (g_e rfl (e_lt rfl rfl) (g_pT rfl rfl rfl (g_mS rfl rfl ?_))))));refine zAw (fun hb47 => ?_) (fun hb47 => ?_)
    ·have hb47T := hb47; try simp only [zz] at hb47
     iterate 2 refine gk_ ?_
     refine zAF rfl rfl rfl ?_;iterate 7 refine gk_ ?_
     refine g_pT rfl rfl rfl (g_aS rfl rfl (g_end (ds := [84, 85, 86, 87, 88, 91, 92, 93, 94, 95, 96, 97, 98, 99, 100]) rfl rfl (hK45 _ ?_))); clear hK45 K45;refine zAh (zAc (zAc (zAk (end1 (v := .sc _) rfl ?_))));exact nl
    have hb47F := hb47; try simp only [zz] at hb47
    refine g_e rfl (e_lA (cs := Node.enc (na)) (n := 3) rfl (h3_ w_)) (g_e rfl (e_lA (cs := Node.enc (ob)) (n := 3) rfl w_) (zBd rfl rfl rfl rfl (.cons (zAx (Node.pure _)) (.cons (zAx (Node.pure _)) .nil)) (zE3 _ _) (g_mS rfl rfl ?_)));refine zAw (fun hb48 => ?_) (fun hb48 => ?_)
    ·have hb48T := hb48; try simp only [zz] at hb48
     refine g_e rfl (e_faQ pl3 rfl) (g_e rfl (e_lH (v := .sc _) rfl w_ rfl) (g_e rfl (e_faQ pl3 rfl) (g_e rfl (e_lH (v := .sc _) rfl (h3_ w_) rfl) (g_e rfl (e_lt rfl rfl) (g_pT rfl rfl rfl (g_pF rfl rfl rfl (g_aS rfl rfl ?_)))))));refine g_end (ds := [84, 85, 86, 87, 88, 91, 92, 93, 94, 95, 96, 97, 98, 99, 100]) rfl rfl (hK45 _ ?_); clear hK45 K45;refine zAh (zAc (zAc (zAk (end1 (v := .sc _) rfl ?_))));exact nl
    have hb48F := hb48; try simp only [zz] at hb48
    iterate 5 refine gk_ ?_
    refine g_pF rfl rfl rfl (g_pF rfl rfl rfl (g_aS rfl rfl (g_end (ds := [84, 85, 86, 87, 88, 91, 92, 93, 94, 95, 96, 97, 98, 99, 100]) rfl rfl (hK45 _ ?_)))); clear hK45 K45;refine zAh (zAc (zAc (zAk (end1 (v := .sc _) rfl ?_))));exact nl
   have hb46F := hb46; try simp only [zz] at hb46
   iterate 5 refine gk_ ?_
   refine g_pF rfl rfl rfl (g_mS rfl rfl (g_e rfl (e_lA (cs := Node.enc (na)) (n := 3) rfl (h3_ w_)) (g_e rfl (e_lA (cs := Node.enc (ob)) (n := 3) rfl w_) (zBd rfl rfl rfl rfl (.cons (zAx (Node.pure _)) (.cons (zAx (Node.pure _)) .nil)) (zE3 _ _) (g_mS rfl rfl ?_)))));refine zAw (fun hb49 => ?_) (fun hb49 => ?_)
   ·have hb49T := hb49; try simp only [zz] at hb49
    refine g_e rfl (e_faQ pl3 rfl) (g_e rfl (e_lH (v := .sc _) rfl w_ rfl) (g_e rfl (e_faQ pl3 rfl) (g_e rfl (e_lH (v := .sc _) rfl (h3_ w_) rfl) (g_e rfl (e_lt rfl rfl) (g_pT rfl rfl rfl (g_pF rfl rfl rfl (g_aS rfl rfl ?_)))))));refine g_end (ds := [84, 85, 86, 87, 88, 91, 92, 93, 94, 95, 96, 97, 98, 99, 100]) rfl rfl (hK45 _ ?_); clear hK45 K45;refine zAh (zAc (zAc (zAk (end1 (v := .sc _) rfl ?_))));exact nl
   have hb49F := hb49; try simp only [zz] at hb49
   iterate 5 refine gk_ ?_
   refine g_pF rfl rfl rfl (g_pF rfl rfl rfl (g_aS rfl rfl (g_end (ds := [84, 85, 86, 87, 88, 91, 92, 93, 94, 95, 96, 97, 98, 99, 100]) rfl rfl (hK45 _ ?_)))); clear hK45 K45;refine zAh (zAc (zAc (zAk (end1 (v := .sc _) rfl ?_))));exact nl
  have hb44F := hb44; try simp only [zz] at hb44
  refine zAl (zAj (zAj (zAb (hK4 _ ?_)))); clear hK4 K4;refine zAa rfl fun K50 hK50 => p_aS rfl (p_end (hK50 _ ?_)); clear hK50 K50;refine zAh (end1 (v := .sc _) rfl ?_);exact nl
 have hb6F := hb6; try simp only [zz] at hb6
 refine zAf (zAa rfl fun K51 hK51 => p_e rfl (e_eq rfl rfl) (p_aS rfl (p_end (hK51 _ ?_)))); clear hK51 K51;refine zAe rfl fun K52 hK52 => ⟨fun hb53 => ?_, fun hb53 => ?_⟩
 ·have hb53T := hb53; try simp only [zz] at hb53
  refine zAl (zAb (hK52 _ ?_)); clear hK52 K52;refine zAt rfl (fun _ => ?_) (fun q => nomatch hb53T.symm.trans q);refine zAf (zAa rfl fun K54 hK54 => p_e rfl (e_faQ pl3 rfl) (p_e rfl (e_lH (v := .sc _) rfl (h4_ (h4_ w_)) rfl) (p_e rfl (e_ne rfl rfl) (p_end (hK54 _ ?_))))); clear hK54 K54;refine zAe rfl fun K55 hK55 => ⟨fun hb56 => ?_, fun hb56 => ?_⟩
  ·have hb56T := hb56; try simp only [zz] at hb56
   refine zAa rfl fun K57 hK57 => p_aS rfl (p_end (hK57 _ ?_)); clear hK57 K57;refine zAh (zAk (zAc (zAk (end1 (v := .sc _) rfl ?_))));exact nl
  have hb56F := hb56; try simp only [zz] at hb56
  refine zAl (zAb (hK55 _ ?_)); clear hK55 K55;refine zAm rfl fun K58 hK58 => zAM (g_e rfl (e_lA (cs := Node.enc (ob)) (n := 3) rfl w_) (g_e rfl (e_lA (cs := Node.enc (na)) (n := 3) rfl (h3_ w_)) (g_e rfl (e_aeq rfl rfl (by kernel_rfl) (zAI (ob) (na)) (zAO (ob) (na))) (g_mS rfl rfl ?_))));refine zAw (fun hb59 => ?_) (fun hb59 => ?_)
  ·have hb59T := hb59; try simp only [zz] at hb59
   iterate 3 refine gk_ ?_
   refine g_pT rfl rfl rfl (g_mS rfl rfl ?_);iterate 6 refine gk_ ?_
   refine zAF rfl rfl rfl ?_;iterate 2 refine gk_ ?_
   refine g_pT rfl rfl rfl (g_mS rfl rfl ?_);iterate 6 refine gk_ ?_
   refine zAF rfl rfl rfl ?_;iterate 2 refine gk_ ?_
   refine g_pT rfl rfl rfl (g_aS rfl rfl (g_end (ds := [113, 114, 115, 118, 119, 120, 121, 122, 123, 124, 125, 126, 129, 130, 131, 132, 133, 134, 135, 136, 137]) rfl rfl (hK58 _ ?_))); clear hK58 K58;refine zAh (zAc (zAk (end1 (v := .sc _) rfl ?_)));exact nl
  have hb59F := hb59; try simp only [zz] at hb59
  refine g_e rfl (e_lA (cs := Node.enc (ob)) (n := 3) rfl w_) (g_e rfl (e_lA (cs := Node.enc (nb)) (n := 3) rfl (h2_ w_)) (g_e rfl (e_aeq rfl rfl (by kernel_rfl) (zAI (ob) (nb)) (zAO (ob) (nb))) (g_pF rfl rfl rfl (g_mS rfl rfl ?_))));refine zAw (fun hb60 => ?_) (fun hb60 => ?_)
  ·have hb60T := hb60; try simp only [zz] at hb60
   iterate 6 refine gk_ ?_
   refine zAF rfl rfl rfl ?_;iterate 2 refine gk_ ?_
   refine g_pT rfl rfl rfl (g_mS rfl rfl ?_);iterate 6 refine gk_ ?_
   refine zAF rfl rfl rfl ?_;iterate 2 refine gk_ ?_
   refine g_pT rfl rfl rfl (g_aS rfl rfl (g_end (ds := [113, 114, 115, 118, 119, 120, 121, 122, 123, 124, 125, 126, 129, 130, 131, 132, 133, 134, 135, 136, 137]) rfl rfl (hK58 _ ?_))); clear hK58 K58;refine zAh (zAc (zAk (end1 (v := .sc _) rfl ?_)));exact nl
  have hb60F := hb60; try simp only [zz] at hb60
  refine g_e rfl (e_lA (cs := Node.enc (oa)) (n := 3) rfl (h1_ w_)) (g_e rfl (e_lA (cs := Node.enc (na)) (n := 3) rfl (h3_ w_)) (g_e rfl (e_aeq rfl rfl (by kernel_rfl) (zAI (oa) (na)) (zAO (oa) (na))) (g_mS rfl rfl ?_)));refine zAw (fun hb61 => ?_) (fun hb61 => ?_)
  ·have hb61T := hb61; try simp only [zz] at hb61
   refine g_e rfl (e_lA (cs := Scaffold.enc (s)) (n := 2) rfl (h2_ (h4_ (h4_ w_)))) (g_e rfl (e_lA (cs := Node.enc (na)) (n := 3) rfl (h3_ w_)) (zBd rfl rfl rfl rfl (.cons (zAx (Scaffold.pure _)) (.cons (zAx (Node.pure _)) (.cons zAY .nil))) (zBq _ _ hsc hs1 hs2) (g_e rfl (e_not rfl) (g_pT rfl rfl rfl (g_pF rfl rfl rfl (g_mS rfl rfl ?_))))));refine zAw (fun hb62 => ?_) (fun hb62 => ?_)
   ·have hb62T := hb62; try simp only [zz] at hb62
    iterate 6 refine gk_ ?_
    refine zAF rfl rfl rfl ?_;iterate 2 refine gk_ ?_
    refine g_pT rfl rfl rfl (g_aS rfl rfl (g_end (ds := [113, 114, 115, 118, 119, 120, 121, 122, 123, 124, 125, 126, 129, 130, 131, 132, 133, 134, 135, 136, 137]) rfl rfl (hK58 _ ?_))); clear hK58 K58;refine zAh (zAc (zAk (end1 (v := .sc _) rfl ?_)));exact nl
   have hb62F := hb62; try simp only [zz] at hb62
   refine g_e rfl (e_lA (cs := Node.enc (oa)) (n := 3) rfl (h1_ w_)) (g_e rfl (e_lA (cs := Node.enc (nb)) (n := 3) rfl (h2_ w_)) (g_e rfl (e_aeq rfl rfl (by kernel_rfl) (zAI (oa) (nb)) (zAO (oa) (nb))) (g_mS rfl rfl ?_)));refine zAw (fun hb63 => ?_) (fun hb63 => ?_)
   ·have hb63T := hb63; try simp only [zz] at hb63
    refine g_e rfl (e_lA (cs := Scaffold.enc (s)) (n := 2) rfl (h2_ (h4_ (h4_ w_)))) (g_e rfl (e_lA (cs := Node.enc (nb)) (n := 3) rfl (h2_ w_)) (zBd rfl rfl rfl rfl (.cons (zAx (Scaffold.pure _)) (.cons (zAx (Node.pure _)) (.cons zAY .nil))) (zBq _ _ hsc hs1 hs2) (g_e rfl (e_not rfl) (g_pT rfl rfl rfl (g_pF rfl rfl rfl (g_aS rfl rfl (g_end (ds := [113, 114, 115, 118, 119, 120, 121, 122, 123, 124, 125, 126, 129, 130, 131, 132, 133, 134, 135, 136, 137]) rfl rfl (hK58 _ ?_)))))))); clear hK58 K58;refine zAh (zAc (zAk (end1 (v := .sc _) rfl ?_)));exact nl
   have hb63F := hb63; try simp only [zz] at hb63
   iterate 2 refine gk_ ?_
   refine zAF rfl rfl rfl (gk_ (g_pF rfl rfl rfl (g_pF rfl rfl rfl (g_aS rfl rfl (g_end (ds := [113, 114, 115, 118, 119, 120, 121, 122, 123, 124, 125, 126, 129, 130, 131, 132, 133, 134, 135, 136, 137]) rfl rfl (hK58 _ ?_)))))); clear hK58 K58;refine zAh (zAc (zAk (end1 (v := .sc _) rfl ?_)));exact nl
  have hb61F := hb61; try simp only [zz] at hb61
  iterate 2 refine gk_ ?_
  refine zAF rfl rfl rfl (gk_ (g_pF rfl rfl rfl (g_pF rfl rfl rfl (g_mS rfl rfl (g_e rfl (e_lA (cs := Node.enc (oa)) (n := 3) rfl (h1_ w_)) (g_e rfl (e_lA (cs := Node.enc (nb)) (n := 3) rfl (h2_ w_)) (g_e rfl (e_aeq rfl rfl (by kernel_rfl) (zAI (oa) (nb)) (zAO (oa) (nb))) ?_)))))));refine g_mS rfl rfl ?_;refine zAw (fun hb64 => ?_) (fun hb64 => ?_)
  ·have hb64T := hb64; try simp only [zz] at hb64
   refine g_e rfl (e_lA (cs := Scaffold.enc (s)) (n := 2) rfl (h2_ (h4_ (h4_ w_)))) (g_e rfl (e_lA (cs := Node.enc (nb)) (n := 3) rfl (h2_ w_)) (zBd rfl rfl rfl rfl (.cons (zAx (Scaffold.pure _)) (.cons (zAx (Node.pure _)) (.cons zAY .nil))) (zBq _ _ hsc hs1 hs2) (g_e rfl (e_not rfl) (g_pT rfl rfl rfl (g_pF rfl rfl rfl (g_aS rfl rfl (g_end (ds := [113, 114, 115, 118, 119, 120, 121, 122, 123, 124, 125, 126, 129, 130, 131, 132, 133, 134, 135, 136, 137]) rfl rfl (hK58 _ ?_)))))))); clear hK58 K58;refine zAh (zAc (zAk (end1 (v := .sc _) rfl ?_)));exact nl
  have hb64F := hb64; try simp only [zz] at hb64
  iterate 2 refine gk_ ?_
  refine zAF rfl rfl rfl (gk_ (g_pF rfl rfl rfl (g_pF rfl rfl rfl (g_aS rfl rfl (g_end (ds := [113, 114, 115, 118, 119, 120, 121, 122, 123, 124, 125, 126, 129, 130, 131, 132, 133, 134, 135, 136, 137]) rfl rfl (hK58 _ ?_)))))); clear hK58 K58;refine zAh (zAc (zAk (end1 (v := .sc _) rfl ?_)));exact nl
 have hb53F := hb53; try simp only [zz] at hb53
 refine zAa rfl fun K65 hK65 => p_e rfl (e_eq rfl rfl) (p_aS rfl (p_end (hK65 _ ?_))); clear hK65 K65;refine zAt rfl (fun hb66 => ?_) (fun hb66 => ?_)
 ·have hb66T := hb66; try simp only [zz] at hb66
  refine zAl (zAb (hK52 _ ?_)); clear hK52 K52;refine zAt rfl (fun _ => ?_) (fun q => nomatch hb66T.symm.trans q);refine zAf (zAa rfl fun K67 hK67 => p_e rfl (e_faQ pl3 rfl) (p_e rfl (e_lH (v := .sc _) rfl (h4_ (h4_ w_)) rfl) (p_e rfl (e_ne rfl rfl) (p_end (hK67 _ ?_))))); clear hK67 K67;refine zAe rfl fun K68 hK68 => ⟨fun hb69 => ?_, fun hb69 => ?_⟩
  ·have hb69T := hb69; try simp only [zz] at hb69
   refine zAa rfl fun K70 hK70 => p_aS rfl (p_end (hK70 _ ?_)); clear hK70 K70;refine zAh (zAk (zAc (zAk (end1 (v := .sc _) rfl ?_))));exact nl
  have hb69F := hb69; try simp only [zz] at hb69
  refine zAl (zAb (hK68 _ ?_)); clear hK68 K68;refine zAm rfl fun K71 hK71 => zAM (g_e rfl (e_lA (cs := Node.enc (ob)) (n := 3) rfl w_) (g_e rfl (e_lA (cs := Node.enc (na)) (n := 3) rfl (h3_ w_)) (g_e rfl (e_aeq rfl rfl (by kernel_rfl) (zAI (ob) (na)) (zAO (ob) (na))) (g_mS rfl rfl ?_))));refine zAw (fun hb72 => ?_) (fun hb72 => ?_)
  ·have hb72T := hb72; try simp only [zz] at hb72
   iterate 3 refine gk_ ?_
   refine g_pT rfl rfl rfl (g_mS rfl rfl ?_);iterate 6 refine gk_ ?_
   refine zAF rfl rfl rfl ?_;iterate 2 refine gk_ ?_
   refine g_pT rfl rfl rfl (g_mS rfl rfl ?_);iterate 6 refine gk_ ?_
   refine zAF rfl rfl rfl ?_;iterate 2 refine gk_ ?_
   refine g_pT rfl rfl rfl (g_aS rfl rfl (g_end (ds := [113, 114, 115, 118, 119, 120, 121, 122, 123, 124, 125, 126, 129, 130, 131, 132, 133, 134, 135, 136, 137]) rfl rfl (hK71 _ ?_))); clear hK71 K71;refine zAh (zAc (zAk (end1 (v := .sc _) rfl ?_)));exact nl
  have hb72F := hb72; try simp only [zz] at hb72
  refine g_e rfl (e_lA (cs := Node.enc (ob)) (n := 3) rfl w_) (g_e rfl (e_lA (cs := Node.enc (nb)) (n := 3) rfl (h2_ w_)) (g_e rfl (e_aeq rfl rfl (by kernel_rfl) (zAI (ob) (nb)) (zAO (ob) (nb))) (g_pF rfl rfl rfl (g_mS rfl rfl ?_))));refine zAw (fun hb73 => ?_) (fun hb73 => ?_)
  ·have hb73T := hb73; try simp only [zz] at hb73
   iterate 6 refine gk_ ?_
   refine zAF rfl rfl rfl ?_;iterate 2 refine gk_ ?_
   refine g_pT rfl rfl rfl (g_mS rfl rfl ?_);iterate 6 refine gk_ ?_
   refine zAF rfl rfl rfl ?_;iterate 2 refine gk_ ?_
   refine g_pT rfl rfl rfl (g_aS rfl rfl (g_end (ds := [113, 114, 115, 118, 119, 120, 121, 122, 123, 124, 125, 126, 129, 130, 131, 132, 133, 134, 135, 136, 137]) rfl rfl (hK71 _ ?_))); clear hK71 K71;refine zAh (zAc (zAk (end1 (v := .sc _) rfl ?_)));exact nl
  have hb73F := hb73; try simp only [zz] at hb73
  refine g_e rfl (e_lA (cs := Node.enc (oa)) (n := 3) rfl (h1_ w_)) (g_e rfl (e_lA (cs := Node.enc (na)) (n := 3) rfl (h3_ w_)) (g_e rfl (e_aeq rfl rfl (by kernel_rfl) (zAI (oa) (na)) (zAO (oa) (na))) (g_mS rfl rfl ?_)));refine zAw (fun hb74 => ?_) (fun hb74 => ?_)
  ·have hb74T := hb74; try simp only [zz] at hb74
   refine g_e rfl (e_lA (cs := Scaffold.enc (s)) (n := 2) rfl (h2_ (h4_ (h4_ w_)))) (g_e rfl (e_lA (cs := Node.enc (na)) (n := 3) rfl (h3_ w_)) (zBd rfl rfl rfl rfl (.cons (zAx (Scaffold.pure _)) (.cons (zAx (Node.pure _)) (.cons zAY .nil))) (zBq _ _ hsc hs1 hs2) (g_e rfl (e_not rfl) (g_pT rfl rfl rfl (g_pF rfl rfl rfl (g_mS rfl rfl ?_))))));refine zAw (fun hb75 => ?_) (fun hb75 => ?_)
   ·have hb75T := hb75; try simp only [zz] at hb75
    iterate 6 refine gk_ ?_
    refine zAF rfl rfl rfl ?_;iterate 2 refine gk_ ?_
    refine g_pT rfl rfl rfl (g_aS rfl rfl (g_end (ds := [113, 114, 115, 118, 119, 120, 121, 122, 123, 124, 125, 126, 129, 130, 131, 132, 133, 134, 135, 136, 137]) rfl rfl (hK71 _ ?_))); clear hK71 K71;refine zAh (zAc (zAk (end1 (v := .sc _) rfl ?_)));exact nl
   have hb75F := hb75; try simp only [zz] at hb75
   refine g_e rfl (e_lA (cs := Node.enc (oa)) (n := 3) rfl (h1_ w_)) (g_e rfl (e_lA (cs := Node.enc (nb)) (n := 3) rfl (h2_ w_)) (g_e rfl (e_aeq rfl rfl (by kernel_rfl) (zAI (oa) (nb)) (zAO (oa) (nb))) (g_mS rfl rfl ?_)));refine zAw (fun hb76 => ?_) (fun hb76 => ?_)
   ·have hb76T := hb76; try simp only [zz] at hb76
    refine g_e rfl (e_lA (cs := Scaffold.enc (s)) (n := 2) rfl (h2_ (h4_ (h4_ w_)))) (g_e rfl (e_lA (cs := Node.enc (nb)) (n := 3) rfl (h2_ w_)) (zBd rfl rfl rfl rfl (.cons (zAx (Scaffold.pure _)) (.cons (zAx (Node.pure _)) (.cons zAY .nil))) (zBq _ _ hsc hs1 hs2) (g_e rfl (e_not rfl) (g_pT rfl rfl rfl (g_pF rfl rfl rfl (g_aS rfl rfl (g_end (ds := [113, 114, 115, 118, 119, 120, 121, 122, 123, 124, 125, 126, 129, 130, 131, 132, 133, 134, 135, 136, 137]) rfl rfl (hK71 _ ?_)))))))); clear hK71 K71;refine zAh (zAc (zAk (end1 (v := .sc _) rfl ?_)));exact nl
   have hb76F := hb76; try simp only [zz] at hb76
   iterate 2 refine gk_ ?_
   refine zAF rfl rfl rfl (gk_ (g_pF rfl rfl rfl (g_pF rfl rfl rfl (g_aS rfl rfl (g_end (ds := [113, 114, 115, 118, 119, 120, 121, 122, 123, 124, 125, 126, 129, 130, 131, 132, 133, 134, 135, 136, 137]) rfl rfl (hK71 _ ?_)))))); clear hK71 K71;refine zAh (zAc (zAk (end1 (v := .sc _) rfl ?_)));exact nl
  have hb74F := hb74; try simp only [zz] at hb74
  iterate 2 refine gk_ ?_
  refine zAF rfl rfl rfl (gk_ (g_pF rfl rfl rfl (g_pF rfl rfl rfl (g_mS rfl rfl (g_e rfl (e_lA (cs := Node.enc (oa)) (n := 3) rfl (h1_ w_)) (g_e rfl (e_lA (cs := Node.enc (nb)) (n := 3) rfl (h2_ w_)) (g_e rfl (e_aeq rfl rfl (by kernel_rfl) (zAI (oa) (nb)) (zAO (oa) (nb))) ?_)))))));refine g_mS rfl rfl ?_;refine zAw (fun hb77 => ?_) (fun hb77 => ?_)
  ·have hb77T := hb77; try simp only [zz] at hb77
   refine g_e rfl (e_lA (cs := Scaffold.enc (s)) (n := 2) rfl (h2_ (h4_ (h4_ w_)))) (g_e rfl (e_lA (cs := Node.enc (nb)) (n := 3) rfl (h2_ w_)) (zBd rfl rfl rfl rfl (.cons (zAx (Scaffold.pure _)) (.cons (zAx (Node.pure _)) (.cons zAY .nil))) (zBq _ _ hsc hs1 hs2) (g_e rfl (e_not rfl) (g_pT rfl rfl rfl (g_pF rfl rfl rfl (g_aS rfl rfl (g_end (ds := [113, 114, 115, 118, 119, 120, 121, 122, 123, 124, 125, 126, 129, 130, 131, 132, 133, 134, 135, 136, 137]) rfl rfl (hK71 _ ?_)))))))); clear hK71 K71;refine zAh (zAc (zAk (end1 (v := .sc _) rfl ?_)));exact nl
  have hb77F := hb77; try simp only [zz] at hb77
  iterate 2 refine gk_ ?_
  refine zAF rfl rfl rfl (gk_ (g_pF rfl rfl rfl (g_pF rfl rfl rfl (g_aS rfl rfl (g_end (ds := [113, 114, 115, 118, 119, 120, 121, 122, 123, 124, 125, 126, 129, 130, 131, 132, 133, 134, 135, 136, 137]) rfl rfl (hK71 _ ?_)))))); clear hK71 K71;refine zAh (zAc (zAk (end1 (v := .sc _) rfl ?_)));exact nl
 have hb66F := hb66; try simp only [zz] at hb66
 refine zAn rfl fun K78 hK78 => p_e rfl (e_eq rfl rfl) (p_aS rfl (p_end (hK78 _ ?_))); clear hK78 K78;refine zAb (hK52 _ ?_); clear hK52 K52;refine zAt rfl (fun hb79 => ?_) (fun hb79 => ?_)
 ·have hb79T := hb79; try simp only [zz] at hb79
  refine zAf (zAa rfl fun K80 hK80 => p_e rfl (e_faQ pl3 rfl) (p_e rfl (e_lH (v := .sc _) rfl (h4_ (h4_ w_)) rfl) (p_e rfl (e_ne rfl rfl) (p_end (hK80 _ ?_))))); clear hK80 K80;refine zAe rfl fun K81 hK81 => ⟨fun hb82 => ?_, fun hb82 => ?_⟩
  ·have hb82T := hb82; try simp only [zz] at hb82
   refine zAa rfl fun K83 hK83 => p_aS rfl (p_end (hK83 _ ?_)); clear hK83 K83;refine zAh (zAk (zAc (zAk (end1 (v := .sc _) rfl ?_))));exact nl
  have hb82F := hb82; try simp only [zz] at hb82
  refine zAl (zAb (hK81 _ ?_)); clear hK81 K81;refine zAm rfl fun K84 hK84 => zAM (g_e rfl (e_lA (cs := Node.enc (ob)) (n := 3) rfl w_) (g_e rfl (e_lA (cs := Node.enc (na)) (n := 3) rfl (h3_ w_)) (g_e rfl (e_aeq rfl rfl (by kernel_rfl) (zAI (ob) (na)) (zAO (ob) (na))) (g_mS rfl rfl ?_))));refine zAw (fun hb85 => ?_) (fun hb85 => ?_)
  ·have hb85T := hb85; try simp only [zz] at hb85
   iterate 3 refine gk_ ?_
   refine g_pT rfl rfl rfl (g_mS rfl rfl ?_);iterate 6 refine gk_ ?_
   refine zAF rfl rfl rfl ?_;iterate 2 refine gk_ ?_
   refine g_pT rfl rfl rfl (g_mS rfl rfl ?_);iterate 6 refine gk_ ?_
   refine zAF rfl rfl rfl ?_;iterate 2 refine gk_ ?_
   refine g_pT rfl rfl rfl (g_aS rfl rfl (g_end (ds := [113, 114, 115, 118, 119, 120, 121, 122, 123, 124, 125, 126, 129, 130, 131, 132, 133, 134, 135, 136, 137]) rfl rfl (hK84 _ ?_))); clear hK84 K84;refine zAh (zAc (zAk (end1 (v := .sc _) rfl ?_)));exact nl
  have hb85F := hb85; try simp only [zz] at hb85
  refine g_e rfl (e_lA (cs := Node.enc (ob)) (n := 3) rfl w_) (g_e rfl (e_lA (cs := Node.enc (nb)) (n := 3) rfl (h2_ w_)) (g_e rfl (e_aeq rfl rfl (by kernel_rfl) (zAI (ob) (nb)) (zAO (ob) (nb))) (g_pF rfl rfl rfl (g_mS rfl rfl ?_))));refine zAw (fun hb86 => ?_) (fun hb86 => ?_)
  ·have hb86T := hb86; try simp only [zz] at hb86
   iterate 6 refine gk_ ?_
   refine zAF rfl rfl rfl ?_;iterate 2 refine gk_ ?_
   refine g_pT rfl rfl rfl (g_mS rfl rfl ?_);iterate 6 refine gk_ ?_
   refine zAF rfl rfl rfl ?_;iterate 2 refine gk_ ?_
   refine g_pT rfl rfl rfl (g_aS rfl rfl (g_end (ds := [113, 114, 115, 118, 119, 120, 121, 122, 123, 124, 125, 126, 129, 130, 131, 132, 133, 134, 135, 136, 137]) rfl rfl (hK84 _ ?_))); clear hK84 K84;refine zAh (zAc (zAk (end1 (v := .sc _) rfl ?_)));exact nl
  have hb86F := hb86; try simp only [zz] at hb86
  refine g_e rfl (e_lA (cs := Node.enc (oa)) (n := 3) rfl (h1_ w_)) (g_e rfl (e_lA (cs := Node.enc (na)) (n := 3) rfl (h3_ w_)) (g_e rfl (e_aeq rfl rfl (by kernel_rfl) (zAI (oa) (na)) (zAO (oa) (na))) (g_mS rfl rfl ?_)));refine zAw (fun hb87 => ?_) (fun hb87 => ?_)
  ·have hb87T := hb87; try simp only [zz] at hb87
   refine g_e rfl (e_lA (cs := Scaffold.enc (s)) (n := 2) rfl (h2_ (h4_ (h4_ w_)))) (g_e rfl (e_lA (cs := Node.enc (na)) (n := 3) rfl (h3_ w_)) (zBd rfl rfl rfl rfl (.cons (zAx (Scaffold.pure _)) (.cons (zAx (Node.pure _)) (.cons zAY .nil))) (zBq _ _ hsc hs1 hs2) (g_e rfl (e_not rfl) (g_pT rfl rfl rfl (g_pF rfl rfl rfl (g_mS rfl rfl ?_))))));refine zAw (fun hb88 => ?_) (fun hb88 => ?_)
   ·have hb88T := hb88; try simp only [zz] at hb88
    iterate 6 refine gk_ ?_
    refine zAF rfl rfl rfl ?_;iterate 2 refine gk_ ?_
    refine g_pT rfl rfl rfl (g_aS rfl rfl (g_end (ds := [113, 114, 115, 118, 119, 120, 121, 122, 123, 124, 125, 126, 129, 130, 131, 132, 133, 134, 135, 136, 137]) rfl rfl (hK84 _ ?_))); clear hK84 K84;refine zAh (zAc (zAk (end1 (v := .sc _) rfl ?_)));exact nl
   have hb88F := hb88; try simp only [zz] at hb88
   refine g_e rfl (e_lA (cs := Node.enc (oa)) (n := 3) rfl (h1_ w_)) (g_e rfl (e_lA (cs := Node.enc (nb)) (n := 3) rfl (h2_ w_)) (g_e rfl (e_aeq rfl rfl (by kernel_rfl) (zAI (oa) (nb)) (zAO (oa) (nb))) (g_mS rfl rfl ?_)));refine zAw (fun hb89 => ?_) (fun hb89 => ?_)
   ·have hb89T := hb89; try simp only [zz] at hb89
    refine g_e rfl (e_lA (cs := Scaffold.enc (s)) (n := 2) rfl (h2_ (h4_ (h4_ w_)))) (g_e rfl (e_lA (cs := Node.enc (nb)) (n := 3) rfl (h2_ w_)) (zBd rfl rfl rfl rfl (.cons (zAx (Scaffold.pure _)) (.cons (zAx (Node.pure _)) (.cons zAY .nil))) (zBq _ _ hsc hs1 hs2) (g_e rfl (e_not rfl) (g_pT rfl rfl rfl (g_pF rfl rfl rfl (g_aS rfl rfl (g_end (ds := [113, 114, 115, 118, 119, 120, 121, 122, 123, 124, 125, 126, 129, 130, 131, 132, 133, 134, 135, 136, 137]) rfl rfl (hK84 _ ?_)))))))); clear hK84 K84;refine zAh (zAc (zAk (end1 (v := .sc _) rfl ?_)));exact nl
   have hb89F := hb89; try simp only [zz] at hb89
   iterate 2 refine gk_ ?_
   refine zAF rfl rfl rfl (gk_ (g_pF rfl rfl rfl (g_pF rfl rfl rfl (g_aS rfl rfl (g_end (ds := [113, 114, 115, 118, 119, 120, 121, 122, 123, 124, 125, 126, 129, 130, 131, 132, 133, 134, 135, 136, 137]) rfl rfl (hK84 _ ?_)))))); clear hK84 K84;refine zAh (zAc (zAk (end1 (v := .sc _) rfl ?_)));exact nl
  have hb87F := hb87; try simp only [zz] at hb87
  iterate 2 refine gk_ ?_
  refine zAF rfl rfl rfl (gk_ (g_pF rfl rfl rfl (g_pF rfl rfl rfl (g_mS rfl rfl (g_e rfl (e_lA (cs := Node.enc (oa)) (n := 3) rfl (h1_ w_)) (g_e rfl (e_lA (cs := Node.enc (nb)) (n := 3) rfl (h2_ w_)) (g_e rfl (e_aeq rfl rfl (by kernel_rfl) (zAI (oa) (nb)) (zAO (oa) (nb))) ?_)))))));refine g_mS rfl rfl ?_;refine zAw (fun hb90 => ?_) (fun hb90 => ?_)
  ·have hb90T := hb90; try simp only [zz] at hb90
   refine g_e rfl (e_lA (cs := Scaffold.enc (s)) (n := 2) rfl (h2_ (h4_ (h4_ w_)))) (g_e rfl (e_lA (cs := Node.enc (nb)) (n := 3) rfl (h2_ w_)) (zBd rfl rfl rfl rfl (.cons (zAx (Scaffold.pure _)) (.cons (zAx (Node.pure _)) (.cons zAY .nil))) (zBq _ _ hsc hs1 hs2) (g_e rfl (e_not rfl) (g_pT rfl rfl rfl (g_pF rfl rfl rfl (g_aS rfl rfl (g_end (ds := [113, 114, 115, 118, 119, 120, 121, 122, 123, 124, 125, 126, 129, 130, 131, 132, 133, 134, 135, 136, 137]) rfl rfl (hK84 _ ?_)))))))); clear hK84 K84;refine zAh (zAc (zAk (end1 (v := .sc _) rfl ?_)));exact nl
  have hb90F := hb90; try simp only [zz] at hb90
  iterate 2 refine gk_ ?_
  refine zAF rfl rfl rfl (gk_ (g_pF rfl rfl rfl (g_pF rfl rfl rfl (g_aS rfl rfl (g_end (ds := [113, 114, 115, 118, 119, 120, 121, 122, 123, 124, 125, 126, 129, 130, 131, 132, 133, 134, 135, 136, 137]) rfl rfl (hK84 _ ?_)))))); clear hK84 K84;refine zAh (zAc (zAk (end1 (v := .sc _) rfl ?_)));exact nl
 have hb79F := hb79; try simp only [zz] at hb79
 refine zAa rfl fun K91 hK91 => p_e rfl (e_eq rfl rfl) (p_aS rfl (p_end (hK91 _ ?_))); clear hK91 K91;refine zAt rfl (fun hb92 => ?_) (fun hb92 => ?_)
 ·have hb92T := hb92; try simp only [zz] at hb92
  refine zAa rfl fun K93 hK93 => p_e rfl (e_lA (cs := Scaffold.enc (s)) (n := 2) rfl (h2_ (h4_ (h4_ w_)))) (p_e rfl (e_lA (cs := Member.enc (m)) (n := 3) rfl (h1_ (h4_ (h4_ w_)))) (zBs rfl (.cons (zAx (Scaffold.pure _)) (.cons (zAx (Member.pure _)) .nil)) ((by first | exact zCY _ _ _ _ hma hmb hna hnb | exact zCY _ _ _ _ hoa hob hoA hoB)) (p_new rfl (zAR (cs := [.int 0, .int 0, .int 0, .int 0, .int 0, .int 0, .int 0, .int 0, .int 0, .int 0, .int 0, .int 0]) (n := 12) (by kernel_rfl) rfl (by decide)) (zAG (by decide)) (zAQ rfl (zAB rfl w_ rfl rfl rfl (by kernel_rfl) rfl (by kernel_rfl)) trivial (p_end (hK93 _ ?_)))))); clear hK93 K93;refine zAm rfl fun K94 hK94 => zAM (g_e rfl (e_faQ pl3 rfl) (g_e rfl (e_lH (v := .sc _) rfl (h2_ (h4_ (h4_ w_))) rfl) (g_e rfl (e_eq rfl rfl) (g_mS rfl rfl ?_))));refine zAw (fun hb95 => ?_) (fun hb95 => ?_)
  ·have hb95T := hb95; try simp only [zz] at hb95
   iterate 3 refine gk_ ?_
   refine g_pT rfl rfl rfl (g_mS rfl rfl (g_e rfl (e_lA (cs := Crn.enc ((⟨na, nb⟩ : Crn))) (n := 12) rfl w_) (g_e rfl (e_lA (cs := Node.enc (oa)) (n := 3) rfl (h3_ w_)) (zBd rfl rfl rfl rfl (.cons (zAx (Crn.pure _)) (.cons (zAx (Node.pure _)) .nil)) (zE8 _ _) (g_e rfl (e_ge rfl rfl) (g_pT rfl rfl rfl (g_mS rfl rfl ?_)))))));refine zAw (fun hb96 => ?_) (fun hb96 => ?_)
   ·have hb96T := hb96; try simp only [zz] at hb96
    refine g_e rfl (e_lA (cs := Crn.enc ((⟨na, nb⟩ : Crn))) (n := 12) rfl w_) (g_e rfl (e_lA (cs := Node.enc (ob)) (n := 3) rfl (h2_ w_)) (zBd rfl rfl rfl rfl (.cons (zAx (Crn.pure _)) (.cons (zAx (Node.pure _)) .nil)) (zE8 _ _) (g_e rfl (e_ge rfl rfl) (g_pT rfl rfl rfl (g_aS rfl rfl (g_end (ds := [148, 149, 150, 153, 154, 155, 156, 159, 160, 161, 162]) rfl rfl (hK94 _ ?_))))))); clear hK94 K94;refine zAh (zAc (zAk (end1 (v := .sc _) rfl ?_)));exact nl
   have hb96F := hb96; try simp only [zz] at hb96
   iterate 2 refine gk_ ?_
   refine zAF rfl rfl rfl (gk_ (g_pF rfl rfl rfl (g_aS rfl rfl (g_end (ds := [148, 149, 150, 153, 154, 155, 156, 159, 160, 161, 162]) rfl rfl (hK94 _ ?_))))); clear hK94 K94;refine zAh (zAc (zAk (end1 (v := .sc _) rfl ?_)));exact nl
  have hb95F := hb95; try simp only [zz] at hb95
  refine g_e rfl (e_faQ pl3 rfl) (g_e rfl (e_lH (v := .sc _) rfl (h2_ (h4_ (h4_ w_))) rfl) (g_e rfl (e_eq rfl rfl) (g_pF rfl rfl rfl (g_mS rfl rfl ?_))));refine zAw (fun hb97 => ?_) (fun hb97 => ?_)
  ·have hb97T := hb97; try simp only [zz] at hb97
   refine g_e rfl (e_lA (cs := Crn.enc ((⟨na, nb⟩ : Crn))) (n := 12) rfl w_) (g_e rfl (e_lA (cs := Node.enc (oa)) (n := 3) rfl (h3_ w_)) (zBd rfl rfl rfl rfl (.cons (zAx (Crn.pure _)) (.cons (zAx (Node.pure _)) .nil)) (zE8 _ _) (g_e rfl (e_ge rfl rfl) (g_pT rfl rfl rfl (g_mS rfl rfl ?_)))));refine zAw (fun hb98 => ?_) (fun hb98 => ?_)
   ·have hb98T := hb98; try simp only [zz] at hb98
    refine g_e rfl (e_lA (cs := Crn.enc ((⟨na, nb⟩ : Crn))) (n := 12) rfl w_) (g_e rfl (e_lA (cs := Node.enc (ob)) (n := 3) rfl (h2_ w_)) (zBd rfl rfl rfl rfl (.cons (zAx (Crn.pure _)) (.cons (zAx (Node.pure _)) .nil)) (zE8 _ _) (g_e rfl (e_ge rfl rfl) (g_pT rfl rfl rfl (g_aS rfl rfl (g_end (ds := [148, 149, 150, 153, 154, 155, 156, 159, 160, 161, 162]) rfl rfl (hK94 _ ?_))))))); clear hK94 K94;refine zAh (zAc (zAk (end1 (v := .sc _) rfl ?_)));exact nl
   have hb98F := hb98; try simp only [zz] at hb98
   iterate 2 refine gk_ ?_
   refine zAF rfl rfl rfl (gk_ (g_pF rfl rfl rfl (g_aS rfl rfl (g_end (ds := [148, 149, 150, 153, 154, 155, 156, 159, 160, 161, 162]) rfl rfl (hK94 _ ?_))))); clear hK94 K94;refine zAh (zAc (zAk (end1 (v := .sc _) rfl ?_)));exact nl
  have hb97F := hb97; try simp only [zz] at hb97
  iterate 2 refine gk_ ?_
  refine zAF rfl rfl rfl (gk_ (g_pF rfl rfl rfl (g_mS rfl rfl ?_)));iterate 2 refine gk_ ?_
  refine zAF rfl rfl rfl (gk_ (g_pF rfl rfl rfl (g_aS rfl rfl (g_end (ds := [148, 149, 150, 153, 154, 155, 156, 159, 160, 161, 162]) rfl rfl (hK94 _ ?_))))); clear hK94 K94;refine zAh (zAc (zAk (end1 (v := .sc _) rfl ?_)));exact nl
 have hb92F := hb92; try simp only [zz] at hb92
 refine zAf (zAa rfl fun K99 hK99 => p_e rfl (e_eq rfl rfl) (p_aS rfl (p_end (hK99 _ ?_)))); clear hK99 K99;refine zAe rfl fun K100 hK100 => ⟨fun hb101 => ?_, fun hb101 => ?_⟩
 ·have hb101T := hb101; try simp only [zz] at hb101
  refine zAl (zAb (hK100 _ ?_)); clear hK100 K100;refine zAt rfl (fun _ => ?_) (fun q => nomatch hb101T.symm.trans q);refine zAf (zAa rfl fun K102 hK102 => p_e rfl (e_faQ pl3 rfl) (p_e rfl (e_lH (v := .sc _) rfl (h4_ (h4_ w_)) rfl) (p_e rfl (e_eq rfl rfl) (p_end (hK102 _ ?_))))); clear hK102 K102;refine zAe rfl fun K103 hK103 => ⟨fun hb104 => ?_, fun hb104 => ?_⟩
  ·have hb104T := hb104; try simp only [zz] at hb104
   refine zAa rfl fun K105 hK105 => p_e rfl (e_lA (cs := Scaffold.enc (s)) (n := 2) rfl (h2_ (h4_ (h4_ w_)))) (p_e rfl (e_lA (cs := Member.enc (o)) (n := 3) rfl (h4_ (h4_ w_))) (zBs rfl (.cons (zAx (Scaffold.pure _)) (.cons (zAx (Member.pure _)) .nil)) ((by first | exact zCY _ _ _ _ hma hmb hna hnb | exact zCY _ _ _ _ hoa hob hoA hoB)) (p_new rfl (zAR (cs := [.int 0, .int 0, .int 0, .int 0, .int 0, .int 0, .int 0, .int 0, .int 0, .int 0, .int 0, .int 0]) (n := 12) (by kernel_rfl) rfl (by decide)) (zAG (by decide)) (zAQ rfl (zAB rfl w_ rfl rfl rfl (by kernel_rfl) rfl (by kernel_rfl)) trivial (p_end (hK105 _ ?_)))))); clear hK105 K105;refine zAm rfl fun K106 hK106 => zAM (g_e rfl (e_lA (cs := Crn.enc ((⟨oa, ob⟩ : Crn))) (n := 12) rfl w_) (g_e rfl (e_lA (cs := Node.enc (na)) (n := 3) rfl (h1_ (h4_ w_))) (zBd rfl rfl rfl rfl (.cons (zAx (Crn.pure _)) (.cons (zAx (Node.pure _)) .nil)) (zE8 _ _) (g_e rfl (e_lA (cs := Crn.enc ((⟨oa, ob⟩ : Crn))) (n := 12) rfl w_) (g_e rfl (e_lA (cs := Node.enc (nb)) (n := 3) rfl (h4_ w_)) (zBd rfl rfl rfl rfl (.cons (zAx (Crn.pure _)) (.cons (zAx (Node.pure _)) .nil)) (zE8 _ _) ?_))))));refine g_aS rfl rfl (g_aS rfl rfl (g_end (ds := []) (by kernel_rfl) rfl (hK106 _ ?_))); clear hK106 K106;have hr1 := @zET oa ob na;have hr2 := @zET oa ob nb;refine zAm rfl fun K107 hK107 => zAM (g_mS rfl rfl (g_e rfl (e_ge rfl rfl) (g_mS rfl rfl ?_)));refine zAw (fun hb108 => ?_) (fun hb108 => ?_)
   ·have hb108T := hb108; try simp only [zz] at hb108
    refine g_mS rfl rfl (g_e rfl (e_ge rfl rfl) (g_pT rfl rfl rfl (g_mS rfl rfl ?_)));refine zAw (fun hb109 => ?_) (fun hb109 => ?_)
    ·have hb109T := hb109; try simp only [zz] at hb109
     refine g_mS rfl rfl (g_mS rfl rfl (g_e rfl (e_sub rfl rfl (by first | omega | (simp only [lM] at *; omega))) (g_e rfl (zKC rfl rfl (by decide)) (g_e rfl (e_ne rfl rfl) (g_pT rfl rfl rfl (g_aS rfl rfl (g_end (ds := [182, 183, 186, 187, 188, 189, 190]) rfl rfl (hK107 _ ?_)))))))); clear hK107 K107;refine zAh (zAk (zAc (zAk (end1 (v := .sc _) rfl ?_))));exact nl
    have hb109F := hb109; try simp only [zz] at hb109
    iterate 5 refine gk_ ?_
    refine g_pF rfl rfl rfl (g_aS rfl rfl (g_end (ds := [182, 183, 186, 187, 188, 189, 190]) rfl rfl (hK107 _ ?_))); clear hK107 K107;refine zAh (zAk (zAc (zAk (end1 (v := .sc _) rfl ?_))));exact nl
   have hb108F := hb108; try simp only [zz] at hb108
   iterate 2 refine gk_ ?_
   refine g_pF rfl rfl rfl (g_mS rfl rfl ?_);iterate 5 refine gk_ ?_
   refine g_pF rfl rfl rfl (g_aS rfl rfl (g_end (ds := [182, 183, 186, 187, 188, 189, 190]) rfl rfl (hK107 _ ?_))); clear hK107 K107;refine zAh (zAk (zAc (zAk (end1 (v := .sc _) rfl ?_))));exact nl
  have hb104F := hb104; try simp only [zz] at hb104
  refine zAl (zAb (hK103 _ ?_)); clear hK103 K103;refine zAm rfl fun K110 hK110 => zAM (g_e rfl (e_faQ pl3 rfl) (g_e rfl (e_lH (v := .sc _) rfl (h4_ (h4_ w_)) rfl) (g_e rfl (e_eq rfl rfl) (g_mS rfl rfl ?_))));refine zAw (fun hb111 => ?_) (fun hb111 => ?_)
  ·have hb111T := hb111; try simp only [zz] at hb111
   refine g_e rfl (e_lA (cs := Node.enc (oa)) (n := 3) rfl (h1_ w_)) (g_e rfl (e_lA (cs := Node.enc (na)) (n := 3) rfl (h3_ w_)) (g_e rfl (e_aeq rfl rfl (by kernel_rfl) (zAI (oa) (na)) (zAO (oa) (na))) (g_mS rfl rfl ?_)));refine zAw (fun hb112 => ?_) (fun hb112 => ?_)
   ·have hb112T := hb112; try simp only [zz] at hb112
    iterate 3 refine gk_ ?_
    refine g_pT rfl rfl rfl (g_pT rfl rfl rfl (g_aS rfl rfl (g_end (ds := [196, 197, 198, 199, 200, 201, 202, 203]) rfl rfl (hK110 _ ?_)))); clear hK110 K110;refine zAh (zAc (zAk (end1 (v := .sc _) rfl ?_)));exact nl
   have hb112F := hb112; try simp only [zz] at hb112
   refine g_e rfl (e_lA (cs := Node.enc (oa)) (n := 3) rfl (h1_ w_)) (g_e rfl (e_lA (cs := Node.enc (nb)) (n := 3) rfl (h2_ w_)) (g_e rfl (e_aeq rfl rfl (by kernel_rfl) (zAI (oa) (nb)) (zAO (oa) (nb))) (g_pF rfl rfl rfl (g_pT rfl rfl rfl (g_aS rfl rfl (g_end (ds := [196, 197, 198, 199, 200, 201, 202, 203]) rfl rfl (hK110 _ ?_))))))); clear hK110 K110;refine zAh (zAc (zAk (end1 (v := .sc _) rfl ?_)));exact nl
  have hb111F := hb111; try simp only [zz] at hb111
  iterate 8 refine gk_ ?_
  refine g_pF rfl rfl rfl (g_aS rfl rfl (g_end (ds := [196, 197, 198, 199, 200, 201, 202, 203]) rfl rfl (hK110 _ ?_))); clear hK110 K110;refine zAh (zAc (zAk (end1 (v := .sc _) rfl ?_)));exact nl
 have hb101F := hb101; try simp only [zz] at hb101
 refine zAn rfl fun K113 hK113 => p_e rfl (e_eq rfl rfl) (p_aS rfl (p_end (hK113 _ ?_))); clear hK113 K113;refine zAb (hK100 _ ?_); clear hK100 K100;refine zAt rfl (fun hb114 => ?_) (fun hb114 => ?_)
 ·have hb114T := hb114; try simp only [zz] at hb114
  refine zAf (zAa rfl fun K115 hK115 => p_e rfl (e_faQ pl3 rfl) (p_e rfl (e_lH (v := .sc _) rfl (h4_ (h4_ w_)) rfl) (p_e rfl (e_eq rfl rfl) (p_end (hK115 _ ?_))))); clear hK115 K115;refine zAe rfl fun K116 hK116 => ⟨fun hb117 => ?_, fun hb117 => ?_⟩
  ·have hb117T := hb117; try simp only [zz] at hb117
   refine zAa rfl fun K118 hK118 => p_e rfl (e_lA (cs := Scaffold.enc (s)) (n := 2) rfl (h2_ (h4_ (h4_ w_)))) (p_e rfl (e_lA (cs := Member.enc (o)) (n := 3) rfl (h4_ (h4_ w_))) (zBs rfl (.cons (zAx (Scaffold.pure _)) (.cons (zAx (Member.pure _)) .nil)) ((by first | exact zCY _ _ _ _ hma hmb hna hnb | exact zCY _ _ _ _ hoa hob hoA hoB)) (p_new rfl (zAR (cs := [.int 0, .int 0, .int 0, .int 0, .int 0, .int 0, .int 0, .int 0, .int 0, .int 0, .int 0, .int 0]) (n := 12) (by kernel_rfl) rfl (by decide)) (zAG (by decide)) (zAQ rfl (zAB rfl w_ rfl rfl rfl (by kernel_rfl) rfl (by kernel_rfl)) trivial (p_end (hK118 _ ?_)))))); clear hK118 K118;refine zAm rfl fun K119 hK119 => zAM (g_e rfl (e_lA (cs := Crn.enc ((⟨oa, ob⟩ : Crn))) (n := 12) rfl w_) (g_e rfl (e_lA (cs := Node.enc (na)) (n := 3) rfl (h1_ (h4_ w_))) (zBd rfl rfl rfl rfl (.cons (zAx (Crn.pure _)) (.cons (zAx (Node.pure _)) .nil)) (zE8 _ _) (g_e rfl (e_lA (cs := Crn.enc ((⟨oa, ob⟩ : Crn))) (n := 12) rfl w_) (g_e rfl (e_lA (cs := Node.enc (nb)) (n := 3) rfl (h4_ w_)) (zBd rfl rfl rfl rfl (.cons (zAx (Crn.pure _)) (.cons (zAx (Node.pure _)) .nil)) (zE8 _ _) ?_))))));refine g_aS rfl rfl (g_aS rfl rfl (g_end (ds := []) (by kernel_rfl) rfl (hK119 _ ?_))); clear hK119 K119;have hr1 := @zET oa ob na;have hr2 := @zET oa ob nb;refine zAm rfl fun K120 hK120 => zAM (g_mS rfl rfl (g_e rfl (e_ge rfl rfl) (g_mS rfl rfl ?_)));refine zAw (fun hb121 => ?_) (fun hb121 => ?_)
   ·have hb121T := hb121; try simp only [zz] at hb121
    refine g_mS rfl rfl (g_e rfl (e_ge rfl rfl) (g_pT rfl rfl rfl (g_mS rfl rfl ?_)));refine zAw (fun hb122 => ?_) (fun hb122 => ?_)
    ·have hb122T := hb122; try simp only [zz] at hb122
     refine g_mS rfl rfl (g_mS rfl rfl (g_e rfl (e_sub rfl rfl (by first | omega | (simp only [lM] at *; omega))) (g_e rfl (zKC rfl rfl (by decide)) (g_e rfl (e_ne rfl rfl) (g_pT rfl rfl rfl (g_aS rfl rfl (g_end (ds := [182, 183, 186, 187, 188, 189, 190]) rfl rfl (hK120 _ ?_)))))))); clear hK120 K120;refine zAh (zAk (zAc (zAk (end1 (v := .sc _) rfl ?_))));exact nl
    have hb122F := hb122; try simp only [zz] at hb122
    iterate 5 refine gk_ ?_
    refine g_pF rfl rfl rfl (g_aS rfl rfl (g_end (ds := [182, 183, 186, 187, 188, 189, 190]) rfl rfl (hK120 _ ?_))); clear hK120 K120;refine zAh (zAk (zAc (zAk (end1 (v := .sc _) rfl ?_))));exact nl
   have hb121F := hb121; try simp only [zz] at hb121
   iterate 2 refine gk_ ?_
   refine g_pF rfl rfl rfl (g_mS rfl rfl ?_);iterate 5 refine gk_ ?_
   refine g_pF rfl rfl rfl (g_aS rfl rfl (g_end (ds := [182, 183, 186, 187, 188, 189, 190]) rfl rfl (hK120 _ ?_))); clear hK120 K120;refine zAh (zAk (zAc (zAk (end1 (v := .sc _) rfl ?_))));exact nl
  have hb117F := hb117; try simp only [zz] at hb117
  refine zAl (zAb (hK116 _ ?_)); clear hK116 K116;refine zAm rfl fun K123 hK123 => zAM (g_e rfl (e_faQ pl3 rfl) (g_e rfl (e_lH (v := .sc _) rfl (h4_ (h4_ w_)) rfl) (g_e rfl (e_eq rfl rfl) (g_mS rfl rfl ?_))));refine zAw (fun hb124 => ?_) (fun hb124 => ?_)
  ·have hb124T := hb124; try simp only [zz] at hb124
   refine g_e rfl (e_lA (cs := Node.enc (oa)) (n := 3) rfl (h1_ w_)) (g_e rfl (e_lA (cs := Node.enc (na)) (n := 3) rfl (h3_ w_)) (g_e rfl (e_aeq rfl rfl (by kernel_rfl) (zAI (oa) (na)) (zAO (oa) (na))) (g_mS rfl rfl ?_)));refine zAw (fun hb125 => ?_) (fun hb125 => ?_)
   ·have hb125T := hb125; try simp only [zz] at hb125
    iterate 3 refine gk_ ?_
    refine g_pT rfl rfl rfl (g_pT rfl rfl rfl (g_aS rfl rfl (g_end (ds := [196, 197, 198, 199, 200, 201, 202, 203]) rfl rfl (hK123 _ ?_)))); clear hK123 K123;refine zAh (zAc (zAk (end1 (v := .sc _) rfl ?_)));exact nl
   have hb125F := hb125; try simp only [zz] at hb125
   refine g_e rfl (e_lA (cs := Node.enc (oa)) (n := 3) rfl (h1_ w_)) (g_e rfl (e_lA (cs := Node.enc (nb)) (n := 3) rfl (h2_ w_)) (g_e rfl (e_aeq rfl rfl (by kernel_rfl) (zAI (oa) (nb)) (zAO (oa) (nb))) (g_pF rfl rfl rfl (g_pT rfl rfl rfl (g_aS rfl rfl (g_end (ds := [196, 197, 198, 199, 200, 201, 202, 203]) rfl rfl (hK123 _ ?_))))))); clear hK123 K123;refine zAh (zAc (zAk (end1 (v := .sc _) rfl ?_)));exact nl
  have hb124F := hb124; try simp only [zz] at hb124
  iterate 8 refine gk_ ?_
  refine g_pF rfl rfl rfl (g_aS rfl rfl (g_end (ds := [196, 197, 198, 199, 200, 201, 202, 203]) rfl rfl (hK123 _ ?_))); clear hK123 K123;refine zAh (zAc (zAk (end1 (v := .sc _) rfl ?_)));exact nl
 have hb114F := hb114; try simp only [zz] at hb114
 refine zAa rfl fun K126 hK126 => p_e rfl (e_eq rfl rfl) (p_aS rfl (p_end (hK126 _ ?_))); clear hK126 K126;refine zAt rfl (fun hb127 => ?_) (fun hb127 => ?_)
 ·have hb127T := hb127; try simp only [zz] at hb127
  refine zAm rfl fun K128 hK128 => zAM (g_e rfl (e_faQ pl3 rfl) (g_e rfl (e_lH (v := .sc _) rfl (h4_ (h4_ w_)) rfl) (g_e rfl (e_eq rfl rfl) (g_mS rfl rfl ?_))));refine zAw (fun hb129 => ?_) (fun hb129 => ?_)
  ·have hb129T := hb129; try simp only [zz] at hb129
   iterate 3 refine gk_ ?_
   refine g_pT rfl rfl rfl (g_mS rfl rfl (g_e rfl (e_lA (cs := Node.enc (oa)) (n := 3) rfl (h1_ w_)) (g_e rfl (e_lA (cs := Node.enc (nb)) (n := 3) rfl (h2_ w_)) (g_e rfl (e_aeq rfl rfl (by kernel_rfl) (zAI (oa) (nb)) (zAO (oa) (nb))) (g_mS rfl rfl ?_)))));refine zAw (fun hb130 => ?_) (fun hb130 => ?_)
   ·have hb130T := hb130; try simp only [zz] at hb130
    iterate 3 refine gk_ ?_
    refine g_pT rfl rfl rfl (g_pT rfl rfl rfl (g_aS rfl rfl (g_end (ds := [211, 212, 213, 216, 217, 218, 219, 220, 221, 222, 223]) rfl rfl (hK128 _ ?_)))); clear hK128 K128;refine zAh (zAc (zAk (end1 (v := .sc _) rfl ?_)));exact nl
   have hb130F := hb130; try simp only [zz] at hb130
   refine g_e rfl (e_lA (cs := Node.enc (ob)) (n := 3) rfl w_) (g_e rfl (e_lA (cs := Node.enc (nb)) (n := 3) rfl (h2_ w_)) (g_e rfl (e_aeq rfl rfl (by kernel_rfl) (zAI (ob) (nb)) (zAO (ob) (nb))) (g_pF rfl rfl rfl (g_pT rfl rfl rfl (g_aS rfl rfl (g_end (ds := [211, 212, 213, 216, 217, 218, 219, 220, 221, 222, 223]) rfl rfl (hK128 _ ?_))))))); clear hK128 K128;refine zAh (zAc (zAk (end1 (v := .sc _) rfl ?_)));exact nl
  have hb129F := hb129; try simp only [zz] at hb129
  refine g_e rfl (e_faQ pl3 rfl) (g_e rfl (e_lH (v := .sc _) rfl (h4_ (h4_ w_)) rfl) (g_e rfl (e_eq rfl rfl) (g_pF rfl rfl rfl (g_mS rfl rfl ?_))));refine zAw (fun hb131 => ?_) (fun hb131 => ?_)
  ·have hb131T := hb131; try simp only [zz] at hb131
   refine g_e rfl (e_lA (cs := Node.enc (oa)) (n := 3) rfl (h1_ w_)) (g_e rfl (e_lA (cs := Node.enc (nb)) (n := 3) rfl (h2_ w_)) (g_e rfl (e_aeq rfl rfl (by kernel_rfl) (zAI (oa) (nb)) (zAO (oa) (nb))) (g_mS rfl rfl ?_)));refine zAw (fun hb132 => ?_) (fun hb132 => ?_)
   ·have hb132T := hb132; try simp only [zz] at hb132
    iterate 3 refine gk_ ?_
    refine g_pT rfl rfl rfl (g_pT rfl rfl rfl (g_aS rfl rfl (g_end (ds := [211, 212, 213, 216, 217, 218, 219, 220, 221, 222, 223]) rfl rfl (hK128 _ ?_)))); clear hK128 K128;refine zAh (zAc (zAk (end1 (v := .sc _) rfl ?_)));exact nl
   have hb132F := hb132; try simp only [zz] at hb132
   refine g_e rfl (e_lA (cs := Node.enc (ob)) (n := 3) rfl w_) (g_e rfl (e_lA (cs := Node.enc (nb)) (n := 3) rfl (h2_ w_)) (g_e rfl (e_aeq rfl rfl (by kernel_rfl) (zAI (ob) (nb)) (zAO (ob) (nb))) (g_pF rfl rfl rfl (g_pT rfl rfl rfl (g_aS rfl rfl (g_end (ds := [211, 212, 213, 216, 217, 218, 219, 220, 221, 222, 223]) rfl rfl (hK128 _ ?_))))))); clear hK128 K128;refine zAh (zAc (zAk (end1 (v := .sc _) rfl ?_)));exact nl
  have hb131F := hb131; try simp only [zz] at hb131
  iterate 8 refine gk_ ?_
  refine g_pF rfl rfl rfl (g_aS rfl rfl (g_end (ds := [211, 212, 213, 216, 217, 218, 219, 220, 221, 222, 223]) rfl rfl (hK128 _ ?_))); clear hK128 K128;refine zAh (zAc (zAk (end1 (v := .sc _) rfl ?_)));exact nl
 have hb127F := hb127; try simp only [zz] at hb127
 refine zAa rfl fun K133 hK133 => p_e rfl (e_eq rfl rfl) (p_aS rfl (p_end (hK133 _ ?_))); clear hK133 K133;refine zAt rfl (fun hb134 => ?_) (fun hb134 => ?_)
 ·have hb134T := hb134; try simp only [zz] at hb134
  refine zAm rfl fun K135 hK135 => zAM (g_e rfl (e_faQ pl3 rfl) (g_e rfl (e_lH (v := .sc _) rfl (h4_ (h4_ w_)) rfl) (g_e rfl (e_eq rfl rfl) (g_mS rfl rfl ?_))));refine zAw (fun hb136 => ?_) (fun hb136 => ?_)
  ·have hb136T := hb136; try simp only [zz] at hb136
   refine g_e rfl (e_lA (cs := Node.enc (ob)) (n := 3) rfl w_) (g_e rfl (e_lA (cs := Node.enc (na)) (n := 3) rfl (h3_ w_)) (g_e rfl (e_aeq rfl rfl (by kernel_rfl) (zAI (ob) (na)) (zAO (ob) (na))) (g_pT rfl rfl rfl (g_aS rfl rfl (g_end (ds := [231, 232, 233]) rfl rfl (hK135 _ ?_)))))); clear hK135 K135;refine zAh (zAc (zAk (end1 (v := .sc _) rfl ?_)));exact nl
  have hb136F := hb136; try simp only [zz] at hb136
  iterate 3 refine gk_ ?_
  refine g_pF rfl rfl rfl (g_aS rfl rfl (g_end (ds := [231, 232, 233]) rfl rfl (hK135 _ ?_))); clear hK135 K135;refine zAh (zAc (zAk (end1 (v := .sc _) rfl ?_)));exact nl
 have hb134F := hb134; try simp only [zz] at hb134
 refine zAl (zAj (zAb (hK4 _ ?_))); clear hK4 K4;refine zAa rfl fun K137 hK137 => p_aS rfl (p_end (hK137 _ ?_)); clear hK137 K137;refine zAh (end1 (v := .sc _) rfl ?_);exact nl
end Go.Proofs.YtnbcmoaofmkjhaaGreatDoor.E7
