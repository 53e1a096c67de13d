import Derived.Test.YtnbcmoaofmkjhaaGreatDoorJ15
import Derived.Test.YtnbcmoaofmkjhaaGreatDoorPvGh
import Derived.Test.YtnbcmoaofmkjhaaGreatDoorRows
import Derived.Test.YtnbcmoaofmkjhaaGreatDoorJ0
import Derived.LaidMore
import Derived.OpenShut
import Derived.Stop.Joined
import Derived.Test.YtnbcmoaofmkjhaaGreatDoorJ1
import Derived.Test.YtnbcmoaofmkjhaaGreatDoorJ4
import Derived.KernelRfl
set_option linter.unusedSimpArgs false
set_option linter.unusedVariables false
set_option maxRecDepth 100000
namespace Go.Proofs.YtnbcmoaofmkjhaaGreatDoor.E7
open Go Go.Pv Go.Proofs.YtnbcmoaofmkjhaaGreatDoor
theorem InF.at {n b : Nat} {xs : List (List Int)} {L : Nat → Int → Prop} (h : InF n b xs L) {z : Int} (hi : 0 ≤ z ∧ z < (n : Int)) : ∃ l, xs[z.toNat]? = some l ∧ l.length ≤ b ∧ ∀ y, y ∈ l ↔ L z.toNat y := by
 have hl : z.toNat < xs.length := by rw [h.1]; omega
 exact ⟨_, List.getElem?_eq_getElem hl, h.2 _ _ (List.getElem?_eq_getElem hl)⟩
theorem zFb.mono {c0 c : Nat → Nat} {xs : List Int} {v : PV} {h : Heap} (hf : zFb c xs v h) (hc : CLe c0 c) : zFb c0 xs v h := by
 rcases hf with hf | ⟨k, h1, h2, h3⟩
 · exact .inl hf
 · exact .inr ⟨k, h1, h2, Nat.le_trans (hc _) h3⟩
theorem zMk {h : Heap} {t : Bool} {sz : Nat} {rows : Pv.Rows} : InnsX h [] [.lit t sz rows] [.lit true sz rows] := .cons (.base (.base (.lit fun _ => rfl)) fun k hk => by simp [zBF, Go.Pv.keyOf] at hk) .nil
theorem zAy.of_known {P : Program} {f : FuncId} {args : List PV} {h : Heap} {cnt : Nat → Nat} {R : PV → Heap → (Nat → Nat) → Prop} (hb : hasBody P f = true) (hc : (∀ k o, h k = some o → k.2 < cnt k.1) → zAy P f args h cnt R) : zAy P f args h cnt R :=
 ⟨hb, fun E vs g hh hcn htt hsz hrep => (hc fun k o hk => by
   have := g.known k o (by rw [hh]; exact hk);unfold Env.known at this;rw [hcn] at this; exact this).2 E vs g hh hcn htt hsz hrep⟩
def zMp : Goods := { ok := fun f => [25].contains f }
theorem goodsM_ok : GoodsOK Tryz.prog zMp := ⟨fun f hf => List.all_eq_true.1 (show [25].all (zFH Tryz.prog) = true by kernel_rfl) f (List.contains_iff_mem.1 hf), (fun _ _ _ _ _ _ _ h => by cases h), (fun _ _ _ _ _ h => by cases h)⟩
theorem minRuns : (List.range 10).map (fun i : Nat => zDm Tryz.prog zMp 100 25 [.int (i : Int)]) = (List.range 10).map (fun i : Nat => some (.int (minK (i : Int)))) := by kernel_rfl
theorem minutesP (k : Int) (hk : 0 ≤ k ∧ k ≤ 9) : PCalls Tryz.prog 25 [.int k] (.int (minK k)) := by
 have h := List.map_inj_left.1 minRuns k.toNat (List.mem_range.2 (by omega));rw [show ((k.toNat : Nat) : Int) = k by omega] at h;exact zCj mixed goodsM_ok h
theorem on_if {xe xb : List (List Int)} {z : Int} {e b : List Int} (he : xe[z.toNat]? = some e) (hb : xb[z.toNat]? = some b) : onL xe xb z = if 0 < e.length then e else b := by
 by_cases h : 0 < e.length
 · rw [on_t he h, if_pos h]
 · rw [on_f he hb h, if_neg h]
theorem zMc {s : Scaffold} {k j : Nat} : (ndP s k j).Pairwise (· < ·) := by
 simp only [ndP];refine List.Pairwise.map _ (fun a b h => Int.ofNat_lt.2 h) ?_;exact List.Pairwise.filter _ List.pairwise_lt_range
theorem zMb {s : Scaffold} {m : Member} {i : Nat} {z : Int} (hs : scfE s = 0) (hm : s.members[i]? = some m) : NdZ s m z ↔ z ∈ ndP s i s.members.length := by
 simp only [ndP, List.mem_map, List.mem_filter, List.mem_range, Bool.and_eq_true, decide_eq_true_eq];constructor
 · rintro ⟨t, o, h1, h2, h3, rfl⟩
   refine ⟨t, ⟨h1, ?_, by rw [zCG hm, zCG h2]; exact h3⟩, rfl⟩
   rintro rfl
   rw [hm] at h2; cases h2;exact Int.lt_irrefl _ (zJu (zDk hs hm) (zDk hs hm) h3)
 · rintro ⟨t, ⟨h1, _, h3⟩, rfl⟩
   have ho : s.members[t]? = some (s.members.getD t default) := by rw [List.getD_eq_getElem?_getD, List.getElem?_eq_getElem h1]; rfl
   rw [zCG hm] at h3;exact ⟨t, _, h1, ho, h3, rfl⟩
theorem needsH (h0 : Heap) (c0 : Nat → Nat) (s : Scaffold) (q gh gl : Nat) (xe xb xm xr : List (List Int)) (lh lr : List ((Int × Int) × PV)) (hz : Fz h0 s q gh gl xe xb xm xr lh lr) (hkn0 : ∀ k o, h0 k = some o → k.2 < c0 k.1) (hsc : scfE s = 0) (hs2 : s.members.length ≤ 40) (m : Member) (i : Nat) (hm : s.members[i]? = some m) : zAy Tryz.prog 26 [.ptr (31, q) 8 0 0, .agg m.enc] h0 c0 (fun v h' _ => ∃ xs, zLZ c0 (setI xs) v h' ∧ OldK c0 h0 h' ∧ ∀ z, z ∈ xs ↔ NdZ s m z) := by
 refine hco Tryz.func26 rfl rfl ?_;have hF := hz.F;have hxe1 := hz.ie.1;have hxm1 := hz.im.1;have hg := zDk hsc hm;have hma := hg.ra;have hmb := hg.rb;obtain ⟨ea, hea, heal, hem⟩ := hz.ie.at hma;obtain ⟨eb, heb, hebl, hebm⟩ := hz.ie.at hmb;obtain ⟨ba, hba, hbal, hbam⟩ := hz.ib.at hma;obtain ⟨bb, hbb, hbbl, hbbm⟩ := hz.ib.at hmb;obtain ⟨ma, hma2, hmal, hmam⟩ := hz.im.at hma;obtain ⟨mb, hmb2, hmbl, hmbm⟩ := hz.im.at hmb;obtain ⟨ra, hra, hral, hram⟩ := hz.ir.at hma;obtain ⟨na, hna, _, _⟩ := zBx (xs := s.nodes) (i := m.a.toNat) (by omega);obtain ⟨nb, hnb, _, _⟩ := zBx (xs := s.nodes) (i := m.b.toNat) (by omega);obtain ⟨rl, hrl1, hrl2, hrl3⟩ := hz.hr (lnA s m.a);obtain ⟨bs1, clk1, hM1, hx1⟩ := hz.hm;obtain ⟨bs2, clk2, hM2, hx2⟩ := hz.rm;have hq := hkn0 _ _ hF;have hgh := hkn0 _ _ hM1;have hgl := hkn0 _ _ hM2;have hnA := nA_at hna;have hnB := nA_at hnb;have hkd := hg.kd;refine zAa rfl fun K1 hK1 => p_new rfl (e_box (n := 3) rfl rfl) ⟨rfl, by decide⟩ (p_e rfl (zAs (v := .nil) rfl) (p_end (hK1 _ ?_)));refine zAa rfl fun K2 hK2 => p_e rfl (zAs (v := .nil) rfl) (p_end (hK2 _ ?_));refine zAf (zAa rfl fun K3 hK3 => p_e rfl (e_faQ pl3 rfl) (p_e rfl (e_lH (v := .sc _) rfl w_ rfl) (p_end (hK3 _ ?_))));refine zAg fun K4 hK4 => zAa rfl fun K5 hK5 => p_e rfl (e_eq rfl rfl) (p_aS rfl (p_end (hK5 _ ?_)));refine zAt rfl (fun hb6 => ?_) (fun hb6 => ?_)
 ·try simp only [zz] at hb6
  refine zAn rfl fun K7 hK7 => p_e rfl (zAi (v := .ptr (31, q) 8 0 0) rfl) (p_e rfl (e_lA (cs := Member.enc m) (n := 3) rfl w_) ?_);refine zBc rfl (standardH _ _ s q gh gl xe xb xm xr (h1_ hF) m lh lr _ ea ma ra rl ⟨_, _, (h1_ hM1), hx1⟩ ⟨_, _, (h1_ hM2), hx2⟩ (hz.hh _) hrl1 (fun z hz => by obtain ⟨t, o, ho, rfl⟩ := zB0 (zJW.1 hz); have := (List.getElem?_eq_some_iff.1 ho).1; omega) (fun z hz => by obtain ⟨t, o, ho, rfl⟩ := zB0 ((hrl3 z).1 hz); have := (List.getElem?_eq_some_iff.1 ho).1; omega) hz.ie.1 hz.im.1 hz.ir.1 hea hma2 hra ⟨Nat.le_trans zGP (by omega), hrl2, heal, hmal, hral⟩ (by simp [cset]; exact hgh) (by simp [cset]; exact hgl) (by simp [cset]; exact hq) hsc hs2 hma hmb) fun v5 h5 c5 hR5 => ?_;obtain ⟨xs, hfx0, hox0, hxl, hxm0⟩ := hR5;have hfx := hfx0.mono (c0 := c0) (by repeat (first | exact CLe.refl _ | apply CLe.set));have hox := OldK.trans (c0 := c0) (h0 := h0) (by repeat (first | exact OldK.refl | refine OldK.set ?_ (by repeat (first | exact CLe.refl _ | apply CLe.set)))) (by repeat (first | exact CLe.refl _ | apply CLe.set)) hox0;refine p_e rfl (zAs (v := v5) rfl) (p_end (hK7 _ ?_));refine zAj (zAb (hK4 _ ?_));refine zAa rfl fun K8 hK8 => p_e rfl (zAi (v := v5) rfl) (zBc rfl (sortX (c0 := c0) (xs := _) hfx (Nat.le_trans (show _ ≤ 1000 from hxl) (show 1000 ≤ 1000000 by decide))) fun v60 h60 c60 hR60 => ?_);obtain ⟨hfx2, hox2, rfl⟩ := hR60;refine p_end (hK8 _ ?_);refine zAa rfl fun K9 hK9 => p_e rfl (zAi (v := v5) rfl) (zBc rfl (zCQ (c0 := c0) hfx2 (by rw [zCl]; exact Nat.le_trans (show _ ≤ 1000 from hxl) (show 1000 ≤ 1000000 by decide))) fun v63 h63 c63 hR63 => ?_);obtain ⟨hfi, hox3, rfl⟩ := hR63;refine p_e rfl (zAs (v := v63) rfl) (p_end (hK9 _ ?_));refine zAh (end1 (v := _) rfl ?_);exact ⟨_, hfi, OldK.trans (OldK.trans hox (CLe.refl _) hox2) (CLe.refl _) hox3, (fun z => (hxm0 z).trans (nd_0 hsc hg (by omega) hem hmam hram hrl3 z))⟩
 try simp only [zz] at hb6
 refine zAf (zAa rfl fun K10 hK10 => p_e rfl (e_eq rfl rfl) (p_aS rfl (p_end (hK10 _ ?_))));refine zAe rfl fun K11 hK11 => ⟨fun hb12 => ?_, fun hb12 => ?_⟩
 ·have hb12T := hb12; try simp only [zz] at hb12
  refine zAl (zAb (hK11 _ ?_));refine zAt rfl (fun _ => ?_) (fun q => nomatch hb12T.symm.trans q);refine zBw rfl fun K13 hK13 => zA0 (s_e rfl (zAi (v := .ptr _ _ _ _) rfl) (s_e rfl (e_faQ pl3 rfl) (s_eR [3] rfl (e_lH (v := .sc _) rfl w_ rfl) (zBr [(31, q)] [31] (by simp) rfl rfl rfl rfl (fun h' hh c' => onH h' c' s q gh gl xe xb xm xr ((hh _ (by simp)).trans (h1_ hF)) m.a ea ba hma hz.ie.1 hz.ib.1 hea hba) (s_e rfl (zAi (v := .ptr _ _ _ _) rfl) (s_e rfl (e_faQ pl3 rfl) ?_))))));refine s_eR [3] rfl (e_lH (v := .sc _) rfl w_ rfl) (zBr [(31, q)] [31] (by simp) rfl rfl rfl rfl (fun h' hh c' => onH h' c' s q gh gl xe xb xm xr ((hh _ (by simp)).trans (h1_ hF)) m.b eb bb hmb hz.ie.1 hz.ib.1 heb hbb) (s_new [] (by simp) rfl rfl rfl rfl (zB4 (zs := [.nil]) (sz := 1) (by kernel_rfl) (by kernel_rfl) rfl (by kernel_rfl) (by decide) rfl rfl (by exact ⟨by decide, rfl, rfl, ⟨by decide, rfl, rfl, trivial⟩⟩) rfl) trivial (zFo (by kernel_rfl) rfl rfl rfl rfl (zHB 700 (ls := [onL xe xb m.a, onL xe xb m.b]) (by simp) (by simp [on_if hea hba, on_if heb hbb]; split <;> split <;> omega) (innL (ls := [onL xe xb m.a, onL xe xb m.b]) w_ (by rfl))) fun v31 h31 c31 hR31 => ?_)));obtain ⟨hs31, hv31, ho31, hc31⟩ := hR31;have hfx := (zEc hs31 hv31).mono (c0 := c0) (by repeat (first | exact CLe.refl _ | apply CLe.set));have hox := OldK.trans (c0 := c0) (h0 := h0) (by repeat (first | exact OldK.refl | refine OldK.set ?_ (by repeat (first | exact CLe.refl _ | apply CLe.set)))) (by repeat (first | exact CLe.refl _ | apply CLe.set)) ho31;refine s_e rfl (zAs (v := _) rfl) (s_end (ds := []) (by kernel_rfl) (by kernel_rfl) (hK13 _ ?_));refine zAj (zAb (hK4 _ ?_));refine zAa rfl fun K14 hK14 => p_e rfl (zAi (v := v31) rfl) (zBc rfl (sortX (c0 := c0) (xs := _) hfx (Nat.le_trans (show _ ≤ 1000 from (by simp [on_if hea hba, on_if heb hbb]; split <;> split <;> omega)) (show 1000 ≤ 1000000 by decide))) fun v60 h60 c60 hR60 => ?_);obtain ⟨hfx2, hox2, rfl⟩ := hR60;refine p_end (hK14 _ ?_);refine zAa rfl fun K15 hK15 => p_e rfl (zAi (v := v31) rfl) (zBc rfl (zCQ (c0 := c0) hfx2 (by rw [zCl]; exact Nat.le_trans (show _ ≤ 1000 from (by simp [on_if hea hba, on_if heb hbb]; split <;> split <;> omega)) (show 1000 ≤ 1000000 by decide))) fun v63 h63 c63 hR63 => ?_);obtain ⟨hfi, hox3, rfl⟩ := hR63;refine p_e rfl (zAs (v := v63) rfl) (p_end (hK15 _ ?_));refine zAh (end1 (v := _) rfl ?_);exact ⟨_, hfi, OldK.trans (OldK.trans hox (CLe.refl _) hox2) (CLe.refl _) hox3, (fun z => by rw [← zLF hsc hg (by omega) hem hebm hbam hbbm, ← on_if hea hba, ← on_if heb hbb]; simp)⟩
 try simp only [zz] at hb12
 refine zAa rfl fun K16 hK16 => p_e rfl (e_eq rfl rfl) (p_aS rfl (p_end (hK16 _ ?_)));refine zAt rfl (fun hb17 => ?_) (fun hb17 => ?_)
 ·have hb17T := hb17; try simp only [zz] at hb17
  refine zAl (zAb (hK11 _ ?_));refine zAt rfl (fun _ => ?_) (fun q => nomatch hb17T.symm.trans q);refine zBw rfl fun K18 hK18 => zA0 (s_e rfl (zAi (v := .ptr _ _ _ _) rfl) (s_e rfl (e_faQ pl3 rfl) (s_eR [3] rfl (e_lH (v := .sc _) rfl w_ rfl) (zBr [(31, q)] [31] (by simp) rfl rfl rfl rfl (fun h' hh c' => onH h' c' s q gh gl xe xb xm xr ((hh _ (by simp)).trans (h1_ hF)) m.a ea ba hma hz.ie.1 hz.ib.1 hea hba) (s_e rfl (zAi (v := .ptr _ _ _ _) rfl) (s_e rfl (e_faQ pl3 rfl) ?_))))));refine s_eR [3] rfl (e_lH (v := .sc _) rfl w_ rfl) (zBr [(31, q)] [31] (by simp) rfl rfl rfl rfl (fun h' hh c' => onH h' c' s q gh gl xe xb xm xr ((hh _ (by simp)).trans (h1_ hF)) m.b eb bb hmb hz.ie.1 hz.ib.1 heb hbb) (s_new [] (by simp) rfl rfl rfl rfl (zB4 (zs := [.nil]) (sz := 1) (by kernel_rfl) (by kernel_rfl) rfl (by kernel_rfl) (by decide) rfl rfl (by exact ⟨by decide, rfl, rfl, ⟨by decide, rfl, rfl, trivial⟩⟩) rfl) trivial (zFo (by kernel_rfl) rfl rfl rfl rfl (zHB 700 (ls := [onL xe xb m.a, onL xe xb m.b]) (by simp) (by simp [on_if hea hba, on_if heb hbb]; split <;> split <;> omega) (innL (ls := [onL xe xb m.a, onL xe xb m.b]) w_ (by rfl))) fun v31 h31 c31 hR31 => ?_)));obtain ⟨hs31, hv31, ho31, hc31⟩ := hR31;have hfx := (zEc hs31 hv31).mono (c0 := c0) (by repeat (first | exact CLe.refl _ | apply CLe.set));have hox := OldK.trans (c0 := c0) (h0 := h0) (by repeat (first | exact OldK.refl | refine OldK.set ?_ (by repeat (first | exact CLe.refl _ | apply CLe.set)))) (by repeat (first | exact CLe.refl _ | apply CLe.set)) ho31;refine s_e rfl (zAs (v := _) rfl) (s_end (ds := []) (by kernel_rfl) (by kernel_rfl) (hK18 _ ?_));refine zAj (zAb (hK4 _ ?_));refine zAa rfl fun K19 hK19 => p_e rfl (zAi (v := v31) rfl) (zBc rfl (sortX (c0 := c0) (xs := _) hfx (Nat.le_trans (show _ ≤ 1000 from (by simp [on_if hea hba, on_if heb hbb]; split <;> split <;> omega)) (show 1000 ≤ 1000000 by decide))) fun v60 h60 c60 hR60 => ?_);obtain ⟨hfx2, hox2, rfl⟩ := hR60;refine p_end (hK19 _ ?_);refine zAa rfl fun K20 hK20 => p_e rfl (zAi (v := v31) rfl) (zBc rfl (zCQ (c0 := c0) hfx2 (by rw [zCl]; exact Nat.le_trans (show _ ≤ 1000 from (by simp [on_if hea hba, on_if heb hbb]; split <;> split <;> omega)) (show 1000 ≤ 1000000 by decide))) fun v63 h63 c63 hR63 => ?_);obtain ⟨hfi, hox3, rfl⟩ := hR63;refine p_e rfl (zAs (v := v63) rfl) (p_end (hK20 _ ?_));refine zAh (end1 (v := _) rfl ?_);exact ⟨_, hfi, OldK.trans (OldK.trans hox (CLe.refl _) hox2) (CLe.refl _) hox3, (fun z => by rw [← zLF hsc hg (by omega) hem hebm hbam hbbm, ← on_if hea hba, ← on_if heb hbb]; simp)⟩
 try simp only [zz] at hb17
 refine zAn rfl fun K21 hK21 => p_e rfl (e_eq rfl rfl) (p_aS rfl (p_end (hK21 _ ?_)));refine zAb (hK11 _ ?_);refine zAt rfl (fun hb22 => ?_) (fun hb22 => ?_)
 ·try simp only [zz] at hb22
  refine zBw rfl fun K23 hK23 => zA0 (s_e rfl (zAi (v := .ptr _ _ _ _) rfl) (s_e rfl (e_faQ pl3 rfl) (s_eR [3] rfl (e_lH (v := .sc _) rfl w_ rfl) (zBr [(31, q)] [31] (by simp) rfl rfl rfl rfl (fun h' hh c' => onH h' c' s q gh gl xe xb xm xr ((hh _ (by simp)).trans (h1_ hF)) m.a ea ba hma hz.ie.1 hz.ib.1 hea hba) (s_e rfl (zAi (v := .ptr _ _ _ _) rfl) (s_e rfl (e_faQ pl3 rfl) ?_))))));refine s_eR [3] rfl (e_lH (v := .sc _) rfl w_ rfl) (zBr [(31, q)] [31] (by simp) rfl rfl rfl rfl (fun h' hh c' => onH h' c' s q gh gl xe xb xm xr ((hh _ (by simp)).trans (h1_ hF)) m.b eb bb hmb hz.ie.1 hz.ib.1 heb hbb) (s_new [] (by simp) rfl rfl rfl rfl (zB4 (zs := [.nil]) (sz := 1) (by kernel_rfl) (by kernel_rfl) rfl (by kernel_rfl) (by decide) rfl rfl (by exact ⟨by decide, rfl, rfl, ⟨by decide, rfl, rfl, trivial⟩⟩) rfl) trivial (zFo (by kernel_rfl) rfl rfl rfl rfl (zHB 700 (ls := [onL xe xb m.a, onL xe xb m.b]) (by simp) (by simp [on_if hea hba, on_if heb hbb]; split <;> split <;> omega) (innL (ls := [onL xe xb m.a, onL xe xb m.b]) w_ (by rfl))) fun v31 h31 c31 hR31 => ?_)));obtain ⟨hs31, hv31, ho31, hc31⟩ := hR31;have hfx := (zEc hs31 hv31).mono (c0 := c0) (by repeat (first | exact CLe.refl _ | apply CLe.set));have hox := OldK.trans (c0 := c0) (h0 := h0) (by repeat (first | exact OldK.refl | refine OldK.set ?_ (by repeat (first | exact CLe.refl _ | apply CLe.set)))) (by repeat (first | exact CLe.refl _ | apply CLe.set)) ho31;refine s_e rfl (zAs (v := _) rfl) (s_end (ds := []) (by kernel_rfl) (by kernel_rfl) (hK23 _ ?_));refine zAj (zAb (hK4 _ ?_));refine zAa rfl fun K24 hK24 => p_e rfl (zAi (v := v31) rfl) (zBc rfl (sortX (c0 := c0) (xs := _) hfx (Nat.le_trans (show _ ≤ 1000 from (by simp [on_if hea hba, on_if heb hbb]; split <;> split <;> omega)) (show 1000 ≤ 1000000 by decide))) fun v60 h60 c60 hR60 => ?_);obtain ⟨hfx2, hox2, rfl⟩ := hR60;refine p_end (hK24 _ ?_);refine zAa rfl fun K25 hK25 => p_e rfl (zAi (v := v31) rfl) (zBc rfl (zCQ (c0 := c0) hfx2 (by rw [zCl]; exact Nat.le_trans (show _ ≤ 1000 from (by simp [on_if hea hba, on_if heb hbb]; split <;> split <;> omega)) (show 1000 ≤ 1000000 by decide))) fun v63 h63 c63 hR63 => ?_);obtain ⟨hfi, hox3, rfl⟩ := hR63;refine p_e rfl (zAs (v := v63) rfl) (p_end (hK25 _ ?_));refine zAh (end1 (v := _) rfl ?_);exact ⟨_, hfi, OldK.trans (OldK.trans hox (CLe.refl _) hox2) (CLe.refl _) hox3, (fun z => by rw [← zLF hsc hg (by omega) hem hebm hbam hbbm, ← on_if hea hba, ← on_if heb hbb]; simp)⟩
 try simp only [zz] at hb22
 refine zAa rfl fun K26 hK26 => p_e rfl (e_eq rfl rfl) (p_aS rfl (p_end (hK26 _ ?_)));refine zAt rfl (fun hb27 => ?_) (fun hb27 => ?_)
 ·try simp only [zz] at hb27
  refine zAn rfl fun K28 hK28 => p_e rfl (zAi (v := .ptr (31, q) 8 0 0) rfl) (p_e rfl (e_lA (cs := Member.enc m) (n := 3) rfl w_) (zBc rfl (deckH _ _ s q gh gl xe xb xm xr (h1_ hF) m na nb (by simp [cset]; exact hq) hsc hs2 hma hmb hna hnb) fun v5 h5 c5 hR5 => ?_));obtain ⟨hfx0, hox0⟩ := hR5;have hfx := hfx0.mono (c0 := c0) (by repeat (first | exact CLe.refl _ | apply CLe.set));have hox := OldK.trans (c0 := c0) (h0 := h0) (by repeat (first | exact OldK.refl | refine OldK.set ?_ (by repeat (first | exact CLe.refl _ | apply CLe.set)))) (by repeat (first | exact CLe.refl _ | apply CLe.set)) hox0;refine p_e rfl (zAs (v := v5) rfl) (p_end (hK28 _ ?_));refine zAj (zAb (hK4 _ ?_));refine zAa rfl fun K29 hK29 => p_e rfl (zAi (v := v5) rfl) (zBc rfl (sortX (c0 := c0) (xs := _) hfx (Nat.le_trans (show _ ≤ 1000 from (Nat.le_trans zJ1 (by omega))) (show 1000 ≤ 1000000 by decide))) fun v60 h60 c60 hR60 => ?_);obtain ⟨hfx2, hox2, rfl⟩ := hR60;refine p_end (hK29 _ ?_);refine zAa rfl fun K30 hK30 => p_e rfl (zAi (v := v5) rfl) (zBc rfl (zCQ (c0 := c0) hfx2 (by rw [zCl]; exact Nat.le_trans (show _ ≤ 1000 from (Nat.le_trans zJ1 (by omega))) (show 1000 ≤ 1000000 by decide))) fun v63 h63 c63 hR63 => ?_);obtain ⟨hfi, hox3, rfl⟩ := hR63;refine p_e rfl (zAs (v := v63) rfl) (p_end (hK30 _ ?_));refine zAh (end1 (v := _) rfl ?_);exact ⟨_, hfi, OldK.trans (OldK.trans hox (CLe.refl _) hox2) (CLe.refl _) hox3, (fun z => nd_6 hsc (by omega) z)⟩
 try simp only [zz] at hb27
 refine zAf (zAa rfl fun K31 hK31 => p_e rfl (e_eq rfl rfl) (p_aS rfl (p_end (hK31 _ ?_))));refine zAe rfl fun K32 hK32 => ⟨fun hb33 => ?_, fun hb33 => ?_⟩
 ·have hb33T := hb33; try simp only [zz] at hb33
  refine zAl (zAb (hK32 _ ?_));refine zAt rfl (fun _ => ?_) (fun q => nomatch hb33T.symm.trans q);refine zAn rfl fun K34 hK34 => p_e rfl (zAi (v := .ptr (31, q) 8 0 0) rfl) (p_e rfl (e_lA (cs := Member.enc m) (n := 3) rfl w_) (zBc rfl (railH _ _ s q gh gl xe xb xm xr (h1_ hF) m na nb ba bb hz.ib.1 hba hbb ⟨hbal, hbbl⟩ (by simp [cset]; exact hq) hsc hs2 hma hmb hna hnb) fun v5 h5 c5 hR5 => ?_));obtain ⟨hfx0, hox0⟩ := hR5;have hfx := hfx0.mono (c0 := c0) (by repeat (first | exact CLe.refl _ | apply CLe.set));have hox := OldK.trans (c0 := c0) (h0 := h0) (by repeat (first | exact OldK.refl | refine OldK.set ?_ (by repeat (first | exact CLe.refl _ | apply CLe.set)))) (by repeat (first | exact CLe.refl _ | apply CLe.set)) hox0;refine p_e rfl (zAs (v := v5) rfl) (p_end (hK34 _ ?_));refine zAj (zAb (hK4 _ ?_));refine zAa rfl fun K35 hK35 => p_e rfl (zAi (v := v5) rfl) (zBc rfl (sortX (c0 := c0) (xs := _) hfx (Nat.le_trans (show _ ≤ 1000 from (by have := @zF5 s na nb s.members.length; simp only [List.flatten_cons, List.flatten_nil, List.append_nil, List.length_append]; omega)) (show 1000 ≤ 1000000 by decide))) fun v60 h60 c60 hR60 => ?_);obtain ⟨hfx2, hox2, rfl⟩ := hR60;refine p_end (hK35 _ ?_);refine zAa rfl fun K36 hK36 => p_e rfl (zAi (v := v5) rfl) (zBc rfl (zCQ (c0 := c0) hfx2 (by rw [zCl]; exact Nat.le_trans (show _ ≤ 1000 from (by have := @zF5 s na nb s.members.length; simp only [List.flatten_cons, List.flatten_nil, List.append_nil, List.length_append]; omega)) (show 1000 ≤ 1000000 by decide))) fun v63 h63 c63 hR63 => ?_);obtain ⟨hfi, hox3, rfl⟩ := hR63;refine p_e rfl (zAs (v := v63) rfl) (p_end (hK36 _ ?_));refine zAh (end1 (v := _) rfl ?_);exact ⟨_, hfi, OldK.trans (OldK.trans hox (CLe.refl _) hox2) (CLe.refl _) hox3, (fun z => by have := nd_45 (la := ba) (lb := bb) hsc hg (by omega) hbam hbbm z; rw [hnA, hnB] at this; exact this)⟩
 try simp only [zz] at hb33
 refine zAn rfl fun K37 hK37 => p_e rfl (e_eq rfl rfl) (p_aS rfl (p_end (hK37 _ ?_)));refine zAb (hK32 _ ?_);refine zAt rfl (fun hb38 => ?_) (fun hb38 => ?_)
 ·try simp only [zz] at hb38
  refine zAn rfl fun K39 hK39 => p_e rfl (zAi (v := .ptr (31, q) 8 0 0) rfl) (p_e rfl (e_lA (cs := Member.enc m) (n := 3) rfl w_) (zBc rfl (railH _ _ s q gh gl xe xb xm xr (h1_ hF) m na nb ba bb hz.ib.1 hba hbb ⟨hbal, hbbl⟩ (by simp [cset]; exact hq) hsc hs2 hma hmb hna hnb) fun v5 h5 c5 hR5 => ?_));obtain ⟨hfx0, hox0⟩ := hR5;have hfx := hfx0.mono (c0 := c0) (by repeat (first | exact CLe.refl _ | apply CLe.set));have hox := OldK.trans (c0 := c0) (h0 := h0) (by repeat (first | exact OldK.refl | refine OldK.set ?_ (by repeat (first | exact CLe.refl _ | apply CLe.set)))) (by repeat (first | exact CLe.refl _ | apply CLe.set)) hox0;refine p_e rfl (zAs (v := v5) rfl) (p_end (hK39 _ ?_));refine zAj (zAb (hK4 _ ?_));refine zAa rfl fun K40 hK40 => p_e rfl (zAi (v := v5) rfl) (zBc rfl (sortX (c0 := c0) (xs := _) hfx (Nat.le_trans (show _ ≤ 1000 from (by have := @zF5 s na nb s.members.length; simp only [List.flatten_cons, List.flatten_nil, List.append_nil, List.length_append]; omega)) (show 1000 ≤ 1000000 by decide))) fun v60 h60 c60 hR60 => ?_);obtain ⟨hfx2, hox2, rfl⟩ := hR60;refine p_end (hK40 _ ?_);refine zAa rfl fun K41 hK41 => p_e rfl (zAi (v := v5) rfl) (zBc rfl (zCQ (c0 := c0) hfx2 (by rw [zCl]; exact Nat.le_trans (show _ ≤ 1000 from (by have := @zF5 s na nb s.members.length; simp only [List.flatten_cons, List.flatten_nil, List.append_nil, List.length_append]; omega)) (show 1000 ≤ 1000000 by decide))) fun v63 h63 c63 hR63 => ?_);obtain ⟨hfi, hox3, rfl⟩ := hR63;refine p_e rfl (zAs (v := v63) rfl) (p_end (hK41 _ ?_));refine zAh (end1 (v := _) rfl ?_);exact ⟨_, hfi, OldK.trans (OldK.trans hox (CLe.refl _) hox2) (CLe.refl _) hox3, (fun z => by have := nd_45 (la := ba) (lb := bb) hsc hg (by omega) hbam hbbm z; rw [hnA, hnB] at this; exact this)⟩
 try simp only [zz] at hb38
 refine zAa rfl fun K42 hK42 => p_e rfl (e_eq rfl rfl) (p_aS rfl (p_end (hK42 _ ?_)));refine zAt rfl (fun hb43 => ?_) (fun hb43 => ?_)
 ·try simp only [zz] at hb43
  refine zBw rfl fun K44 hK44 => zA0 (s_e rfl (zAi (v := .ptr _ _ _ _) rfl) (s_e rfl (zBe rfl) (s_e rfl (e_faQ plF rfl) (s_eR [31] rfl (e_lH (v := .lit _ _ _) rfl (h1_ hF) rfl) (s_e rfl (e_faQ pl3 rfl) (s_eR [3] rfl (e_lH (v := .sc _) rfl w_ rfl) ?_))))));refine s_e rfl (e_ixL rfl rfl) (s_e rfl (e_lL (v := .lit _ _ _) rfl ((zAV hmb2 _).trans rfl)) (zFo (by kernel_rfl) rfl rfl rfl rfl (zMA (l := mb) (by omega) zMk) fun v31 h31 c31 hR31 => ?_));obtain ⟨hf31, ho31⟩ := hR31;have hfx := hf31.mono (c0 := c0) (by repeat (first | exact CLe.refl _ | apply CLe.set));have hox := OldK.trans (c0 := c0) (h0 := h0) (by repeat (first | exact OldK.refl | refine OldK.set ?_ (by repeat (first | exact CLe.refl _ | apply CLe.set)))) (by repeat (first | exact CLe.refl _ | apply CLe.set)) ho31;refine s_e rfl (zAs (v := _) rfl) (s_end (ds := []) (by kernel_rfl) (by kernel_rfl) (hK44 _ ?_));refine zAj (zAb (hK4 _ ?_));refine zAa rfl fun K45 hK45 => p_e rfl (zAi (v := v31) rfl) (zBc rfl (sortX (c0 := c0) (xs := _) hfx (Nat.le_trans (show _ ≤ 1000 from (by omega)) (show 1000 ≤ 1000000 by decide))) fun v60 h60 c60 hR60 => ?_);obtain ⟨hfx2, hox2, rfl⟩ := hR60;refine p_end (hK45 _ ?_);refine zAa rfl fun K46 hK46 => p_e rfl (zAi (v := v31) rfl) (zBc rfl (zCQ (c0 := c0) hfx2 (by rw [zCl]; exact Nat.le_trans (show _ ≤ 1000 from (by omega)) (show 1000 ≤ 1000000 by decide))) fun v63 h63 c63 hR63 => ?_);obtain ⟨hfi, hox3, rfl⟩ := hR63;refine p_e rfl (zAs (v := v63) rfl) (p_end (hK46 _ ?_));refine zAh (end1 (v := _) rfl ?_);exact ⟨_, hfi, OldK.trans (OldK.trans hox (CLe.refl _) hox2) (CLe.refl _) hox3, (fun z => nd_7 hsc hg (by omega) hmbm z)⟩
 try simp only [zz] at hb43
 refine zAa rfl fun K47 hK47 => p_e rfl (e_eq rfl rfl) (p_aS rfl (p_end (hK47 _ ?_)));refine zAt rfl (fun hb48 => ?_) (fun hb48 => ?_)
 ·try simp only [zz] at hb48
  refine zBw rfl fun K49 hK49 => zA0 (s_e rfl (zAi (v := .ptr _ _ _ _) rfl) (s_e rfl (zBe rfl) (s_e rfl (e_faQ plF rfl) (s_eR [31] rfl (e_lH (v := .lit _ _ _) rfl (h1_ hF) rfl) (s_e rfl (e_faQ pl3 rfl) (s_eR [3] rfl (e_lH (v := .sc _) rfl w_ rfl) ?_))))));refine s_e rfl (e_ixL rfl rfl) (s_e rfl (e_lL (v := .lit _ _ _) rfl ((zAV hea _).trans rfl)) (zFo (by kernel_rfl) rfl rfl rfl rfl (zMA (l := ea) (by omega) zMk) fun v31 h31 c31 hR31 => ?_));obtain ⟨hf31, ho31⟩ := hR31;have hfx := hf31.mono (c0 := c0) (by repeat (first | exact CLe.refl _ | apply CLe.set));have hox := OldK.trans (c0 := c0) (h0 := h0) (by repeat (first | exact OldK.refl | refine OldK.set ?_ (by repeat (first | exact CLe.refl _ | apply CLe.set)))) (by repeat (first | exact CLe.refl _ | apply CLe.set)) ho31;refine s_e rfl (zAs (v := _) rfl) (s_end (ds := []) (by kernel_rfl) (by kernel_rfl) (hK49 _ ?_));refine zAj (zAb (hK4 _ ?_));refine zAa rfl fun K50 hK50 => p_e rfl (zAi (v := v31) rfl) (zBc rfl (sortX (c0 := c0) (xs := _) hfx (Nat.le_trans (show _ ≤ 1000 from (by omega)) (show 1000 ≤ 1000000 by decide))) fun v60 h60 c60 hR60 => ?_);obtain ⟨hfx2, hox2, rfl⟩ := hR60;refine p_end (hK50 _ ?_);refine zAa rfl fun K51 hK51 => p_e rfl (zAi (v := v31) rfl) (zBc rfl (zCQ (c0 := c0) hfx2 (by rw [zCl]; exact Nat.le_trans (show _ ≤ 1000 from (by omega)) (show 1000 ≤ 1000000 by decide))) fun v63 h63 c63 hR63 => ?_);obtain ⟨hfi, hox3, rfl⟩ := hR63;refine p_e rfl (zAs (v := v63) rfl) (p_end (hK51 _ ?_));refine zAh (end1 (v := _) rfl ?_);exact ⟨_, hfi, OldK.trans (OldK.trans hox (CLe.refl _) hox2) (CLe.refl _) hox3, (fun z => nd_8 hsc hg (by omega) hem z)⟩
 try simp only [zz] at hb48
 refine zAl (zAj (zAb (hK4 _ ?_)));refine zAa rfl fun K52 hK52 => p_e rfl (zAi (v := .nil) rfl) (zBc rfl (sortX (c0 := c0) (xs := []) (.inl ⟨.inl rfl, rfl⟩) (Nat.le_trans (show _ ≤ 1000 from (by simp)) (show 1000 ≤ 1000000 by decide))) fun v60 h60 c60 hR60 => ?_);obtain ⟨hfx2, hox2, rfl⟩ := hR60;refine p_end (hK52 _ ?_);refine zAa rfl fun K53 hK53 => p_e rfl (zAi (v := .nil) rfl) (zBc rfl (zCQ (c0 := c0) hfx2 (by rw [zCl]; exact Nat.le_trans (show _ ≤ 1000 from (by simp)) (show 1000 ≤ 1000000 by decide))) fun v63 h63 c63 hR63 => ?_);obtain ⟨hfi, hox3, rfl⟩ := hR63;refine p_e rfl (zAs (v := v63) rfl) (p_end (hK53 _ ?_));refine zAh (end1 (v := _) rfl ?_);exact ⟨_, hfi, OldK.trans (OldK.trans (by repeat (first | exact OldK.refl | refine OldK.set ?_ (by repeat (first | exact CLe.refl _ | apply CLe.set)))) (CLe.refl _) hox2) (CLe.refl _) hox3, (nd_9 (by omega))⟩
theorem needsM (h0 : Heap) (c0 : Nat → Nat) (s : Scaffold) (q gh gl : Nat) (xe xb xm xr : List (List Int)) (lh lr : List ((Int × Int) × PV)) (hz : Fz h0 s q gh gl xe xb xm xr lh lr) (hsc : scfE s = 0) (hs2 : s.members.length ≤ 40) (m : Member) (i : Nat) (hm : s.members[i]? = some m) :
   zAy Tryz.prog 26 [.ptr (31, q) 8 0 0, .agg m.enc] h0 c0 (fun v h c => v = .lit false 1 ((ndP s i s.members.length).map ci) ∧ h = h0 ∧ c = c0) := by
 refine zAy.of_known (by kernel_rfl) fun hkn => ?_;have h1 := needsH h0 c0 s q gh gl xe xb xm xr lh lr hz hkn hsc hs2 m i hm;refine zAy.freezeI (h1.mono fun v h' c' ⟨xs, hf, ho, hx⟩ => ?_)
 have he : setI xs = ndP s i s.members.length := zLq setI_pw zMc fun z => by
   rw [setI_mem, hx, zMb hsc hm]
 rw [he] at hf;exact ⟨hf, ho⟩
section
variable {P : Program} {ρ : Operand → PV} {h : Heap} {key : Key} {t t' : TypeId} {x y : Operand} {a b : Int}
theorem e_neT (hx : ρ x = .int a) (hy : ρ y = .int b) (hn : a ≠ b) : eff P ρ h key (.binOp .neq t x y t') = ⟨True, .bool true, [], [], false⟩ :=
 (e_ne hx hy).trans (by rw [decide_eq_true hn])
theorem e_neF (hx : ρ x = .int a) (hy : ρ y = .int b) (hn : a = b) : eff P ρ h key (.binOp .neq t x y t') = ⟨True, .bool false, [], [], false⟩ := by
 rw [e_ne hx hy, decide_eq_false (p := a ≠ b) (fun q => q hn)]
end
theorem Fz.to {h h' : Heap} {s : Scaffold} {q gh gl : Nat} {xe xb xm xr : List (List Int)} {lh lr : List ((Int × Int) × PV)} {bs1 bs2 : List Nat} {clk1 clk2 : Nat} (hz : Fz h s q gh gl xe xb xm xr lh lr) (e1 : h' (31, q) = some (.rows 8 [frow s (fzX xe xb xm xr gh gl)]))
   (e2 : h' (28, gh) = some (.map (zBb kl id lh) bs1 clk1)) (hx1 : bs1.length = (zBb kl id lh).length ∧ bs1.Nodup ∧ ∀ b ∈ bs1, b < clk1) (e3 : h' (29, gl) = some (.map (zBb kl id lr) bs2 clk2)) (hx2 : bs2.length = (zBb kl id lr).length ∧ bs2.Nodup ∧ ∀ b ∈ bs2, b < clk2) : Fz h' s q gh gl xe xb xm xr lh lr :=
 ⟨e1, hz.ie, hz.ib, hz.im, hz.ir, ⟨bs1, clk1, e2, hx1⟩, ⟨bs2, clk2, e3, hx2⟩, hz.hh, hz.hr⟩
theorem geo_up {s : Scaffold} {m : Member} (hg : GeoM s m) : (nA s m.a).pz ≤ (nA s m.b).pz := by
 have hk := zJP hg.kd;rcases hk with h | h | h | h | h | h | h | h | h | h
 · have := hg.k07 (by omega); omega
 · have := hg.k12 (by omega); omega
 · have := hg.k12 (by omega); omega
 · have := hg.k3 h; omega
 · have := hg.k12 (by omega); omega
 · have := hg.k12 (by omega); omega
 · have := hg.k6 h; omega
 · have := hg.k07 (by omega); omega
 · rw [hg.k89 (by omega)]; exact Int.le_refl _
 · rw [hg.k89 (by omega)]; exact Int.le_refl _
theorem flr_div (z : Int) : flr z = z / 1000 := by
 have h := Int.mul_tdiv_add_tmod z 1000;have hb := zLw z;unfold flr;split
 · rename_i hn;have e : z - (z.tmod 1000 + 1000) = (z.tdiv 1000 - 1) * 1000 := by omega
   rw [e, Int.mul_tdiv_cancel _ (by decide)]; omega
 · rename_i hn;have e : z - z.tmod 1000 = z.tdiv 1000 * 1000 := by omega
   rw [e, Int.mul_tdiv_cancel _ (by decide)]; omega
theorem place_eq {s : Scaffold} {m : Member} (hg : GeoM s m) : min ((max (zA s m.a) 0).tdiv 1000) 999 = min 999 (max 0 (flr (min (nA s m.a).pz (nA s m.b).pz))) := by
 have hu := geo_up hg;have hz : zA s m.a = (nA s m.a).pz := rfl;rw [flr_div, hz, Int.tdiv_eq_ediv_of_nonneg (by omega)];omega
theorem fs_row {s : Scaffold} {k : Nat} {m : Member} (hg : GeoM s m) : [PV.str (⟨#[109]⟩ ++ ⟨(Lib.decDigits k).toArray⟩), PV.str ⟨#[115, 99, 97, 102, 102, 111, 108, 100, 101, 114]⟩, PV.int (k : Int), PV.int (min ((max (zA s m.a) 0).tdiv 1000) 999), PV.int (minK m.kind), PV.lit false 1 ((ndP s k s.members.length).map ci)] = Task.encF (fsM s k m) := by
 rw [place_eq hg]; rfl
theorem fsT_take {s : Scaffold} {k : Nat} {m : Member} (hm : s.members[k]? = some m) : (fsT s).take (k + 1) = (fsT s).take k ++ [fsM s k m] := by
 rw [List.take_add_one, zI7 hm]; rfl
theorem fzr_e {s : Scaffold} {v : PV} {h : Heap} (hsc : scfE s ≠ 0) (hR : FzR s v h) : v = .tup [.sc (.pointer none), .int (scfE s)] := by
 rcases hR with ⟨_, h1⟩ | ⟨h1, _⟩
 · exact h1
 · exact absurd h1 hsc
theorem fzr_0 {s : Scaffold} {v : PV} {h : Heap} (hsc : scfE s = 0) (hR : FzR s v h) : ∃ q gh gl xe xb xm xr lh lr, v = .tup [.ptr (31, q) 8 0 0, .int 0] ∧ Fz h s q gh gl xe xb xm xr lh lr ∧ h (1, 0) = some (.rows 2 [Scaffold.enc s]) := by
 rcases hR with ⟨h1, _⟩ | ⟨_, h1⟩
 · exact absurd hsc h1
 · exact h1
theorem zA_rng {s : Scaffold} {z : Int} (hsc : scfE s = 0) (hz : 0 ≤ z ∧ z < (s.nodes.length : Int)) : -1000000 ≤ zA s z ∧ zA s z ≤ 1000000 := by
 obtain ⟨n, hn, _, _⟩ := zBx (xs := s.nodes) (i := z.toNat) (by omega);have := (spc_b (zKp hsc hn).1).2.2
 rwa [show zA s z = n.pz by rw [zA, List.getD_eq_getElem?_getD, hn]; rfl]
theorem fromE (s : Scaffold) (hs1 : s.nodes.length ≤ 30) (hs2 : s.members.length ≤ 40) (hsc : scfE s ≠ 0) : PCalls Tryz.prog 7 [.agg s.enc] (.tup [.lit false 6 (([] : List Task).map Task.encF), .int (scfE s)]) := by
 refine pco Tryz.func7 rfl rfl (zKs (.lit _ _ _ fun row hr => zBo Task.pureF row hr) (.sc _)) (zAa rfl fun K1 hK1 => p_new rfl (e_box (n := 2) rfl rfl) ⟨rfl, by decide⟩ (p_e rfl (zAs (v := .nil) rfl) (p_aS rfl (p_end (hK1 _ ?_)))));refine zAa rfl fun K2 hK2 => p_e rfl (e_lA (cs := Scaffold.enc (s)) (n := 2) rfl w_) (zBc rfl (readZ _ _ s hs1 hs2 w_ (by simp [cset])) fun v h1 c1 hR => ?_);obtain rfl := fzr_e hsc hR;refine p_e rfl (zAi (v := .tup _) rfl) (p_e rfl (e_ext (v := .sc _) rfl (by simp) rfl) (p_e rfl (e_ext (v := .sc _) rfl (by simp) rfl) (p_aS rfl (p_aS rfl (p_end (hK2 _ ?_))))));refine zAf (zAa rfl fun K3 hK3 => p_mS rfl (p_e rfl (e_neT rfl rfl hsc) (p_end (hK3 _ ?_))));refine zAe (t := true) rfl fun K4 hK4 => ⟨fun _ => ?_, nofun⟩
 refine zAa rfl fun K5 hK5 => p_mS rfl (p_e rfl (zAs (v := .nil) rfl) (p_aS rfl (p_end (hK5 _ ?_))));refine zAh (zAk (end2 (v := .nil) (w := .sc _) rfl rfl ?_));exact out_2 (.nil 6) (out_i rfl)
theorem from0 (s : Scaffold) (hs1 : s.nodes.length ≤ 30) (hs2 : s.members.length ≤ 40) (hsc : scfE s = 0) : PCalls Tryz.prog 7 [.agg s.enc] (.tup [.lit false 6 ((fsT s).map Task.encF), .int 0]) := by
 refine pco Tryz.func7 rfl rfl (zKs (.lit _ _ _ fun row hr => zBo Task.pureF row hr) (.sc _)) (zAa rfl fun K1 hK1 => p_new rfl (e_box (n := 2) rfl rfl) ⟨rfl, by decide⟩ (p_e rfl (zAs (v := .nil) rfl) (p_aS rfl (p_end (hK1 _ ?_)))));refine zAa rfl fun K2 hK2 => p_e rfl (e_lA (cs := Scaffold.enc (s)) (n := 2) rfl w_) (zBc rfl (readZ _ _ s hs1 hs2 w_ (by simp [cset])) fun v h1 c1 hR => ?_);obtain ⟨q, gh, gl, xe, xb, xm, xr, lh, lr, rfl, hz, hB1⟩ := fzr_0 hsc hR;obtain ⟨bs1, clk1, hM1, hx1⟩ := hz.hm;obtain ⟨bs2, clk2, hM2, hx2⟩ := hz.rm;have hF0 := hz.F;refine p_e rfl (zAi (v := .tup _) rfl) (p_e rfl (e_ext (v := .ptr _ _ _ _) rfl (by simp) rfl) (p_e rfl (e_ext (v := .sc _) rfl (by simp) rfl) (p_e rfl (zAs (v := .ptr _ _ _ _) rfl) (p_aS rfl (p_end (hK2 _ ?_))))));refine zAf (zAa rfl fun K3 hK3 => p_mS rfl (p_e rfl (e_neF rfl rfl rfl) (p_end (hK3 _ ?_))));refine zAe (t := false) rfl fun K4 hK4 => ⟨nofun, fun _ => ?_⟩
 refine zAl (zAb (hK4 _ ?_));refine zAa rfl fun K5 hK5 => p_e rfl (zAs (v := .nil) rfl) (p_end (hK5 _ ?_));refine zAf (zAa rfl fun K6 hK6 => p_e rfl (e_faQ pl2 rfl) (p_e rfl (e_lH (v := .lit _ _ _) rfl hB1 rfl) (p_e rfl (e_len rfl (by kernel_rfl)) (p_mS rfl (p_end (hK6 _ ?_))))));refine zAg fun K7 hK7 => zAE (α := Nat × PV) [4, 18, 19] (fun (a8 : Nat × PV) => [(6, (a8.2)), (20, .int (a8.1))]) (fun (a8 : Nat × PV) (h : Heap) (_ : Nat → Nat) => ((a8.1) ≤ s.members.length) ∧ (zAq h 45 (a8.2) 6 (((fsT s).take (a8.1)).map Task.encF)) ∧ (h (31, q) = some (.rows 8 [frow s (fzX xe xb xm xr gh gl)])) ∧ (h (28, gh) = some (.map (zBb kl id lh) bs1 clk1)) ∧ (h (29, gl) = some (.map (zBb kl id lr) bs2 clk2))) (fun (a8 : Nat × PV) => s.members.length - (a8.1)) (0, .nil) (by exact ⟨rfl, rfl, trivial⟩) (by exact ⟨by exact Nat.zero_le _, .nil, hF0, hM1, hM2⟩) fun a8 r9 h10 c11 hj12 => ?_;obtain ⟨k, v⟩ := a8;obtain ⟨hk, hihj12_0, hihj12_1, hihj12_2, hihj12_3⟩ := hj12;try dsimp only at hk
 try dsimp only at hihj12_0
 try dsimp only at hihj12_1
 try dsimp only at hihj12_2
 try dsimp only at hihj12_3
 show pwp _ _ (loopQ _ _ _) ⟨sets (mix _ _ _) [(6, v), (20, .int k)], _, _⟩;refine zAa rfl fun K13 hK13 => p_e rfl (e_lt rfl rfl) (p_end (hK13 _ ?_));refine zAe rfl fun K14 hK14 => ⟨fun hb15 => ?_, fun hb15 => ?_⟩
 ·have hb15R := hb15; try simp only [zz] at hb15
  obtain ⟨m, hx, hd, ht⟩ := zBx (xs := s.members) (i := k) (by omega);have hg := zDk hsc hx;have hma := hg.ra;have hsz := zHT (k := k) (by omega);have hTl : ((fsT s).take k).length ≤ k := by rw [List.length_take]; omega
  have htq := zL1 (max (zA s m.a) 0);have hzb := zA_rng hsc hma;refine zAl (zAb (hK14 _ ?_));refine zAg fun K16 hK16 => zAa rfl fun K17 hK17 => p_mS rfl (p_e rfl (e_ixL rfl rfl) (p_e rfl (e_lB (n := 3) rfl (by first | exact zBj hx rfl)) (p_new rfl (zAR (cs := [.int 0, .int 0, .int 0]) (n := 3) (by kernel_rfl) rfl (by decide)) (zAG (by decide)) (p_aS rfl (zAQ rfl (zAB rfl w_ rfl rfl rfl (by kernel_rfl) rfl (by kernel_rfl)) trivial ?_)))));refine p_end (hK17 _ ?_);refine zBw rfl fun K18 hK18 => zA0 (s_e rfl (zAi (v := _) rfl) (s_e rfl (zAi (v := .sc _) rfl) (zDS (args := [.sc _]) [] (by intro k hk; simp [zBF, Go.Pv.keyOf] at hk; try (first | (subst hk; simp; done) | (rcases hk with rfl | rfl <;> simp; done))) rfl rfl rfl rfl (.cons zAY .nil) (itoaS _ (by omega)) (s_e rfl (zMt rfl rfl (by (show 1 + _ < _; omega))) (s_e rfl (zAi (v := .sc _) rfl) (s_e rfl (zAi (v := .ptr _ _ _ _) rfl) ?_))))));refine s_e rfl (e_faQ pl3 rfl) (s_eR [8] rfl (e_lH (v := .sc _) rfl w_ rfl) (zBr [(31, q)] [31] (by simp) rfl rfl rfl rfl (fun h' hh c' => zM h' c' s q m.a _ ((hh _ (by simp)).trans (h2_ hihj12_1)) hma) (s_e rfl (e_max rfl rfl) (s_e rfl (zMu rfl rfl (by decide) (by omega)) (s_e rfl (e_min rfl rfl) (s_e rfl (e_faQ pl3 rfl) (s_eR [8] rfl (e_lH (v := .sc _) rfl w_ rfl) ?_)))))));refine zDS (args := [.sc _]) [] (by intro k hk; simp [zBF, Go.Pv.keyOf] at hk; try (first | (subst hk; simp; done) | (rcases hk with rfl | rfl <;> simp; done))) rfl rfl rfl rfl (.cons zAY .nil) (minutesP _ hg.kd) (s_e rfl (zAi (v := .ptr _ _ _ _) rfl) (s_eR [8] rfl (e_lA (cs := Member.enc (m)) (n := 3) rfl w_) (zBr [(31, q), (28, gh), (29, gl)] [31, 28, 29] (by simp) rfl rfl rfl rfl (fun h' hh c' => needsM h' c' s q gh gl xe xb xm xr lh lr (hz.to ((hh _ (by simp)).trans (h2_ hihj12_1)) ((hh _ (by simp)).trans (h2_ hihj12_2)) hx1 ((hh _ (by simp)).trans (h2_ hihj12_3)) hx2) hsc hs2 m k hx) (s_e rfl (zCt (cs := Task.encF (fsM s k m)) (zs := [.str ByteArray.empty, .str ByteArray.empty, .int 0, .int 0, .int 0, .nil]) (pl := [(0, 1, false), (1, 1, false), (2, 1, false), (3, 1, false), (4, 1, false), (5, 1, false)]) (by kernel_rfl) (by kernel_rfl) (by kernel_rfl) rfl rfl (by exact ⟨by decide, rfl, nb_, rfl, ⟨by decide, rfl, nb_, rfl, ⟨by decide, rfl, nb_, rfl, ⟨by decide, rfl, nb_, rfl, ⟨by decide, rfl, nb_, rfl, ⟨by decide, rfl, nb_, rfl, trivial⟩⟩⟩⟩⟩⟩) (by rw [← fs_row hg]; rfl)) (s_new [] (by simp) rfl rfl rfl rfl (zB4 (rows := [Task.encF (fsM s k m)]) (zs := [.str ByteArray.empty, .str ByteArray.empty, .int 0, .int 0, .int 0, .nil]) (sz := 6) (by kernel_rfl) (by kernel_rfl) rfl (by kernel_rfl) (by decide) rfl rfl (by exact ⟨by decide, rfl, rfl, trivial⟩) rfl) trivial (s_app [45, 44] [45, 45] (by simp) (by simp) (by simp) rfl rfl rfl (hihj12_0.keep fun _ => h3_ (rfl)) (SrcAt.ref w_ rfl) rfl (by kernel_rfl) (by simp only [List.length_append, lM, List.length_nil, List.length_cons]; omega) fun v19 h20 c21 hs22 hf23 => ?_))))));have ho24 := (hf23 (31, _) (zAv rfl) (fun _ _ => zAv rfl)).trans (h3_ hihj12_1);have ho25 := (hf23 (8, _) (zAv rfl) (fun _ _ => zAv rfl)).trans (h1_ w_);have ho26 := (hf23 (44, _) (zAv rfl) (fun _ _ => zAv rfl)).trans w_;have ho27 := (hf23 (28, _) (zAv rfl) (fun _ _ => zAv rfl)).trans (h3_ hihj12_2);have ho28 := (hf23 (29, _) (zAv rfl) (fun _ _ => zAv rfl)).trans (h3_ hihj12_3);refine s_e rfl (zAs (v := _) rfl) (s_end (ds := []) (by kernel_rfl) (by kernel_rfl) (hK18 _ ?_));refine zAj (zAb (hK16 _ ?_));refine zAn rfl fun K29 hK29 => p_e rfl (e_adL rfl rfl) (p_mS rfl (p_end (hK29 _ ?_)));exact zAo ((k + 1, v19)) (by show _ < _; simp only; omega) ⟨rfl, rfl, rfl, trivial⟩ ⟨rfl, rfl, trivial⟩ (by exact ⟨by show _ + 1 ≤ _; simp only [lM] at *; omega, (zAq.to hs22 (by rw [fsT_take hx, List.map_append]; rfl)), ho24, ho27, ho28⟩)
 have hb15R := hb15; try simp only [zz] at hb15
 have hkx : k = s.members.length := by simp only [lM] at *; omega
 refine zAJ (zAK ?_);clear hK14 K14;refine zAC (zAA (zAb (hK7 _ ?_)));refine zAa rfl fun K30 hK30 => p_e rfl (zAi (v := _) rfl) (p_e rfl (zAs (v := _) rfl) (p_aS rfl (p_end (hK30 _ ?_))));refine zAh (end2 (v := _) (w := .sc _) rfl rfl ?_);exact out_2 (zDM hihj12_0 (by rw [hkx, ← zDA, List.take_length]) (fun _ => rfl) zLV) (out_i rfl)
end Go.Proofs.YtnbcmoaofmkjhaaGreatDoor.E7
namespace Go.Proofs.YtnbcmoaofmkjhaaGreatDoor
open Go Go.Pv Go.RowKit
theorem gEnv_full (w : World) : (gEnv w w.heap.size).w = w := by
 show { w with heap := w.heap.extract 0 w.heap.size } = w;rw [Array.extract_size]
theorem zHY {E : Env} {g : Nat} {k : IntKind} {xs : List Int} (hown : ∀ b, ¬ E.own b) (htt : E.tt = true) (h0 : 0 < xs.length)
   (hc : ∀ j, j < xs.length → E.w.cell? ⟨g, j, none⟩ = some (.int k (xs.getD j 0))) : Rep E (.pointer (some ⟨g, 0, none⟩)) (.lptr true xs.length [xs.map fun n : Int => .sc (.int k n)] 0 0) := by
 have hone : ∀ (i j : Nat) (row : List PV) (p : PV), ([xs.map fun n : Int => PV.sc (.int k n)] : List (List PV))[i]? = some row → row[j]? = some p → i = 0 ∧ j < xs.length ∧ p = .sc (.int k (xs.getD j 0)) := fun i j row p h2 h3 => by
   match i with
   | 0 =>
     simp only [List.getElem?_cons_zero, Option.some.injEq] at h2;subst h2;rw [List.getElem?_map, Option.map_eq_some_iff] at h3;obtain ⟨n, hn, rfl⟩ := h3;have hj : j < xs.length := (List.getElem?_eq_some_iff.1 hn).1;exact ⟨rfl, hj, by rw [List.getD_eq_getElem?_getD, hn]; rfl⟩
   | i + 1 => simp at h2
 have := Rep.lptr (E := E) (b := g) (off := 0) (t := true) (sz := xs.length) (rows := [xs.map fun n : Int => PV.sc (.int k n)]) (f := fun _ j => .int k (xs.getD j 0)) 0 0
   ⟨hown g, (fun h => by cases h), (fun _ => htt), zLo (hc 0 h0), (fun row hr => by simp only [List.mem_singleton] at hr; subst hr; rw [lM]), (fun i j row p h2 h3 => by
     obtain ⟨rfl, hj, _⟩ := hone i j row p h2 h3
     rw [Nat.zero_mul, Nat.zero_add]; exact hc j hj), (fun row hr p hp => by
       simp only [List.mem_singleton] at hr; subst hr;obtain ⟨n, _, rfl⟩ := List.mem_map.1 hp; exact .sc _),
     (fun row hr p hp => by
       simp only [List.mem_singleton] at hr; subst hr;obtain ⟨n, _, rfl⟩ := List.mem_map.1 hp; rfl)⟩ (fun i j row p h2 h3 => by
     obtain ⟨_, _, rfl⟩ := hone i j row p h2 h3; exact .sc rfl)
 simpa using this
theorem zG1 {P : Program} {w : World} {t e : TypeId} {k : IntKind} {n fuel : Nat} {cs : List Value} {xs : List Int} {p : List MemPlace} {encU : TypeId × Value → Unit} {spare : Nat → Bool} {held : Bool}
   (ht : P.underlying t = some (.array n e)) (he : P.underlying e = some (.int k)) (hce : P.cellsOf e = 1)
   (h : DataW.trod encU P w 0 spare held fuel t cs = some (.agg (xs.map fun z : Int => .lit (.int k z)), p)) : ∀ j, j < xs.length → cs[j]? = some (.int k (xs.getD j 0)) := fun j hj => by
 obtain ⟨ys, m, _, h1, h2, h3, h4⟩ := DataW.trod_array ht h;simp only [Prod.mk.injEq, DataW.agg.injEq] at h1;obtain ⟨h1, _⟩ := h1;have hl : ys.length = xs.length := by have := congrArg List.length h1; simpa using this.symm
 have h5 := h4 j (by omega);rw [hce, Nat.mul_one, List.getElem?_eq_getElem (by omega)] at h5;obtain ⟨z, h6, h7, _⟩ := DataW.trod_int he h5;have h8 : (ys.map (·.1))[j]? = some (.lit (.int k z)) := by rw [List.getElem?_map, List.getElem?_eq_getElem (by omega), h7]; rfl
 rw [← h1, List.getElem?_map, List.getElem?_eq_getElem hj] at h8;simp only [Option.map_some, Option.some.injEq, DataW.lit.injEq, Lit.int.injEq, true_and] at h8
 have h9 : (cs.drop j)[0]? = some (.int k z) := by
   have := congrArg (fun l => l[0]?) h6;simpa [List.getElem?_take] using this
 rw [List.getElem?_drop, Nat.add_zero] at h9;rw [h9, List.getD_eq_getElem?_getD, List.getElem?_eq_getElem hj, ← h8];rfl
def x32 : List Int := [0, 1, 28, 2, 29, 14, 24, 3, 30, 22, 20, 15, 25, 17, 4, 8, 31, 27, 13, 23, 21, 19, 16, 7, 26, 12, 18, 6, 11, 5, 10, 9]
def x64 : List Int := [0, 1, 56, 2, 57, 49, 28, 3, 61, 58, 42, 50, 38, 29, 17, 4, 62, 47, 59, 36, 45, 43, 51, 22, 53, 39, 33, 30, 24, 18, 12, 5, 63, 55, 48, 27, 60, 41, 37, 16, 46, 35, 44, 21, 52, 32, 23, 11, 54, 26, 40, 15, 34, 20, 31, 10, 25, 14, 19, 9, 13, 8, 7, 6]
def x20 : List Int := [1, 10, 100, 1000, 10000, 100000, 1000000, 10000000, 100000000, 1000000000, 10000000000, 100000000000, 1000000000000, 10000000000000, 100000000000000, 1000000000000000, 10000000000000000, 100000000000000000, 1000000000000000000, 10000000000000000000]
abbrev laid3 : List (String × DataW Unit) := [("math/bits.deBruijn32tab", Rows.laid_math_bits_deBruijn32tab), ("math/bits.deBruijn64tab", Rows.laid_math_bits_deBruijn64tab), ("internal/strconv.uint64pow10", Rows.laid_internal_strconv_uint64pow10)]
theorem gN32 : Tryz.prog.globalNamed "math/bits.deBruijn32tab" = some 1 := by kernel_rfl
theorem gN64 : Tryz.prog.globalNamed "math/bits.deBruijn64tab" = some 2 := by kernel_rfl
theorem gN10 : Tryz.prog.globalNamed "internal/strconv.uint64pow10" = some 0 := by kernel_rfl
theorem gT32 : (Tryz.prog.globals[1]?).map (·.type) = some 172 := by kernel_rfl
theorem gT64 : (Tryz.prog.globals[2]?).map (·.type) = some 173 := by kernel_rfl
theorem gT10 : (Tryz.prog.globals[0]?).map (·.type) = some 161 := by kernel_rfl
theorem gw_of_laid {W : World} (h : laidMetH Tryz.prog laid3 W) : gw W W.heap.size := by
 rw [MakeChecks.laidMetH_plain _ _ _ (by kernel_rfl)] at h;obtain ⟨ps, ⟨g0, t0, cs0, f0, p0, q0, hg0, ht0, hv0, hd0, ⟨g1, t1, cs1, f1, p1, q1, hg1, ht1, hv1, hd1, ⟨g2, t2, cs2, f2, p2, q2, hg2, ht2, hv2, hd2, _, _⟩, _⟩, _⟩, _, _⟩ := h;obtain rfl := Option.some.inj (gN32.symm.trans hg0);obtain rfl := Option.some.inj (gN64.symm.trans hg1);obtain rfl := Option.some.inj (gN10.symm.trans hg2);obtain rfl := Option.some.inj (gT32.symm.trans ht0);obtain rfl := Option.some.inj (gT64.symm.trans ht1);obtain rfl := Option.some.inj (gT10.symm.trans ht2);have hE : (gEnv W W.heap.size).w = W := gEnv_full W;have hown : ∀ b, ¬ (gEnv W W.heap.size).own b := fun b ⟨k, o, h, _⟩ => by simp [gEnv] at h
 have key : ∀ {n : String} {g : Nat} {cs : Array Value} {k : IntKind} {xs : List Int}, Tryz.prog.globalNamed n = some g → W.var? Tryz.prog n = some cs → (∀ j, j < xs.length → cs.toList[j]? = some (.int k (xs.getD j 0))) → ∀ j, j < xs.length → (gEnv W W.heap.size).w.cell? ⟨g, j, none⟩ = some (.int k (xs.getD j 0)) := fun hg hv hc j hj => by
   rw [hE, World.var?_cell hg hv j, ← Array.getElem?_toList]; exact hc j hj
 refine ⟨fun g => ?_, fun g hg => by cases hg⟩
 match g with
 | 0 => exact zHY (k := .u64) (xs := x20) hown rfl (by decide) (key hg2 hv2 (zG1 (e := 144) Tryz.underlying161 Tryz.underlying144 (by kernel_rfl) hd2))
 | 1 => exact zHY (k := .u8) (xs := x32) hown rfl (by decide) (key hg0 hv0 (zG1 (e := 5) Tryz.underlying172 Tryz.underlying5 (by kernel_rfl) hd0))
 | 2 => exact zHY (k := .u8) (xs := x64) hown rfl (by decide) (key hg1 hv1 (zG1 (e := 5) Tryz.underlying173 Tryz.underlying5 (by kernel_rfl) hd1))
 | g + 3 => exact .dead
theorem door_met (os : Os) (args : Array Value) : laidMetH Tryz.prog laid3 ((World.doorLaid Tryz.prog 400 os).forCall (fun _ _ => 0) ⟨#[], args, []⟩).memory :=
 laidMetH_of_parts3 (fuel := 8) (laidMet_of_run' 8 (by kernel_rfl) (by kernel_rfl)) (by kernel_rfl) (by kernel_rfl)
end Go.Proofs.YtnbcmoaofmkjhaaGreatDoor
namespace Go.Proofs.YtnbcmoaofmkjhaaGreatDoor.E7
open Go.Pv
theorem zHV (f : Nat → Int) : ∀ l : List Nat, l ≠ [] → ∃ i ∈ l, ∀ j ∈ l, f i ≤ f j
 | [], h => absurd rfl h
 | [a], _ => ⟨a, List.mem_singleton.2 rfl, fun j hj => by rw [List.mem_singleton.1 hj]; exact Int.le_refl _⟩
 | a :: b :: l, _ => by
   obtain ⟨i, hi, hm⟩ := zHV f (b :: l) (by simp);by_cases h : f a ≤ f i
   · refine ⟨a, List.mem_cons_self, fun j hj => ?_⟩;rcases List.mem_cons.1 hj with rfl | hj
     · exact Int.le_refl _
     · exact Int.le_trans h (hm j hj)
   · refine ⟨i, List.mem_cons_of_mem _ hi, fun j hj => ?_⟩;rcases List.mem_cons.1 hj with rfl | hj
     · omega
     · exact hm j hj
theorem min_nat : ∀ (p : Nat → Bool) (n i : Nat), i < n → p i = true → ∃ k, k < n ∧ p k = true ∧ ∀ j, j < n → p j = true → k ≤ j := fun p n i hi hp => by
 obtain ⟨k, hk, hm⟩ := zHV (fun x => (x : Int)) ((List.range n).filter p) (by
   intro h;have : i ∈ (List.range n).filter p := List.mem_filter.2 ⟨List.mem_range.2 hi, hp⟩;rw [h] at this; cases this)
 have h1 := List.mem_filter.1 hk;refine ⟨k, List.mem_range.1 h1.1, h1.2, fun j hj hpj => ?_⟩;have := hm j (List.mem_filter.2 ⟨List.mem_range.2 hj, hpj⟩);omega
theorem zF8 {nd : List (List Int)} (f : Nat → Int) (hf : ∀ i, i < nd.length → ∀ z ∈ nd_ nd i, ∃ j : Nat, z = (j : Int) ∧ j < nd.length ∧ f j < f i) : ∀ (k : Nat) (D : List Int), OrdAt nd D → leftR nd D = k → (ordR nd).length = nd.length
 | 0, D, h, hk => by
   have h1 := h.ord; have h2 := h.len;rw [hk] at h1 h2;rw [← h1]; show D.length = _; omega
 | k + 1, D, h, hk => by
   obtain ⟨i, hi, hm⟩ := zHV f ((List.range nd.length).filter fun i : Nat => decide ((i : Int) ∉ D)) (by
     intro h0; rw [leftR, h0] at hk; cases hk)
   have hi := List.mem_filter.1 hi;have hin := List.mem_range.1 hi.1
   have hr : rdyB nd D i = true := zCm.2 ⟨of_decide_eq_true hi.2, fun z hz => by
     obtain ⟨j, rfl, hj, hl⟩ := hf i hin z hz;refine Classical.byContradiction fun hn => ?_;have := hm j (List.mem_filter.2 ⟨List.mem_range.2 hj, decide_eq_true hn⟩);omega⟩
   obtain ⟨m, hmn, hmr, hmm⟩ := min_nat (rdyB nd D) nd.length i hin hr;have hs := zGH hmn (zCm.1 hmr).1;exact zF8 f hf k _ (h.step hmn hmr hmm) (by omega)
theorem ord_rank {nd : List (List Int)} (f : Nat → Int) (hf : ∀ i, i < nd.length → ∀ z ∈ nd_ nd i, ∃ j : Nat, z = (j : Int) ∧ j < nd.length ∧ f j < f i) : (ordR nd).length = nd.length := zF8 f hf _ [] .nil rfl
open Go Go.Pv Go.Proofs.YtnbcmoaofmkjhaaGreatDoor
def nmD (k : Nat) : ByteArray := ⟨(109 : UInt8) :: dg k |>.toArray⟩
theorem zKu {k : Nat} (h : k < 100) : nmM k = nmD k := by
 rw [nmM, zLS h, nmD];apply ByteArray.ext;rw [ByteArray.data_append];simp
theorem zJH : ∀ k, k < 40 → isNm (nmD k) = true := by decide +kernel
theorem nm_diff : ∀ i, i < 40 → ∀ k, k < 40 → (dg i).map UInt8.toNat = (dg k).map UInt8.toNat → i = k := by decide +kernel
theorem nm_inj {i k : Nat} (hi : i < 40) (hk : k < 40) (h : nmM i = nmM k) : i = k := by
 rw [zKu (by omega), zKu (by omega), nmD, nmD] at h;have h1 := congrArg (fun b : ByteArray => b.data.toList) h;simp at h1;exact nm_diff i hi k hk (by rw [h1])
theorem zKJ : isNm trM = true := by decide +kernel
theorem nm_runs : (List.range 40).map (fun k => zDm Tryz.prog zGd 300 66 [.str (nmD k)]) = (List.range 40).map fun _ => some (.bool true) := by kernel_rfl
theorem tr_run : zDm Tryz.prog zGd 300 66 [.str trM] = some (.bool true) := by kernel_rfl
theorem minK_rng {k : Int} : 0 ≤ minK k ∧ minK k ≤ 12 := by
 unfold minK
 repeat' split
 all_goals omega
theorem zKK {xs : List Task} : ∀ {l : List Task} {k : Nat}, (∀ i t, l[i]? = some t → taskE xs (k + i) t = 0) → zBY xs k l = 0
 | [], _, _ => rfl
 | t :: l, k, h => by
   have h0 := h 0 t rfl;rw [Nat.add_zero] at h0;rw [zBY, if_neg (by rw [h0]; exact fun q => q rfl)]
   exact zKK fun i t' hi => by
     have := h (i + 1) t' hi
     rwa [show k + (i + 1) = k + 1 + i by omega] at this
section
variable {s : Scaffold} {k : Nat} {m : Member}
theorem ndP_rng {z : Int} (h : z ∈ ndP s k s.members.length) : 0 ≤ z ∧ z < (s.members.length : Int) := by
 obtain ⟨i, hi, rfl⟩ := List.mem_map.1 h;have := List.mem_range.1 (List.mem_filter.1 hi).1;omega
theorem ndP_list : listE (ndP s k s.members.length) (s.members.length : Int) = 0 := by
 have h1 : (ndP s k s.members.length).any (outB (s.members.length : Int)) = false := by
   rw [List.any_eq_false];intro z hz;have := ndP_rng hz;simp only [outB, Bool.not_eq_true', decide_eq_false_iff_not, Decidable.not_not];omega
 have h2 : ascB (ndP s k s.members.length) = true := by
   simp only [ascB, decide_eq_true_eq];intro i hi h0;have hp := List.pairwise_iff_getElem.1 (zMc (s := s) (k := k) (j := s.members.length)) (i - 1) i (by omega) hi (by omega);rw [zB5 (by omega), zB5 hi] at hp;exact hp
 rw [listE, h1, h2]; rfl
theorem task_0 (hs2 : s.members.length ≤ 40) (hm : s.members[k]? = some m) : taskE (fsT s) k (fsM s k m) = 0 := by
 have hk := (List.getElem?_eq_some_iff.1 hm).1;have h1 : isNm (nmM k) = true := by rw [zKu (by omega)]; exact zJH k (by omega)
 have h3 : dupB (fsT s) k (nmM k) = false := by
   simp only [dupB, List.any_eq_false];intro t ht;obtain ⟨i, hi⟩ := List.mem_iff_getElem?.1 ht;rw [List.getElem?_take] at hi;split at hi
   · rename_i hik;obtain ⟨o, ho⟩ : ∃ o, s.members[i]? = some o := ⟨_, List.getElem?_eq_getElem (by omega)⟩
     rw [zI7 ho] at hi; cases hi;simp only [decide_eq_true_eq];intro e;have := nm_inj (i := i) (k := k) (by omega) (by omega) e;omega
   · cases hi
 have h4 : rngT (fsM s k m) := by
   refine ⟨?_, ?_, ?_⟩
   · show -1 ≤ (k : Int) ∧ (k : Int) ≤ 3999; omega
   · show 0 ≤ min 999 (max 0 (flr (min (nA s m.a).pz (nA s m.b).pz))) ∧ min 999 (max 0 (flr (min (nA s m.a).pz (nA s m.b).pz))) ≤ 999; omega
   · show 0 ≤ minK m.kind ∧ minK m.kind ≤ 10000;have := @minK_rng m.kind; omega
 rw [← zJh h1 zKJ h3 h4, zDA];exact ndP_list
theorem fs_tasks (hs2 : s.members.length ≤ 40) : zBY (fsT s) 0 (fsT s) = 0 := zKK fun i t hi => by
 have hl := (List.getElem?_eq_some_iff.1 hi).1;rw [zDA] at hl;obtain ⟨o, ho⟩ : ∃ o, s.members[i]? = some o := ⟨_, List.getElem?_eq_getElem hl⟩
 rw [zI7 ho] at hi; cases hi;rw [Nat.zero_add];exact task_0 hs2 ho
theorem zMs (hsc : scfE s = 0) : (ordR (ndX (fsT s))).length = (fsT s).length := by
 rw [← zCV (xs := fsT s)];refine ord_rank (fun i => rnk s (s.members.getD i default)) fun i hi z hz => ?_;rw [zCV, zDA] at hi;obtain ⟨m, hm⟩ : ∃ m, s.members[i]? = some m := ⟨_, List.getElem?_eq_getElem hi⟩
 rw [zEI (zI7 hm)] at hz;obtain ⟨t, o, h1, h2, h3, rfl⟩ := (zMb hsc hm).2 hz;refine ⟨t, rfl, by rw [zCV, zDA]; exact h1, ?_⟩;show rnk s (s.members.getD t default) < rnk s (s.members.getD i default);rw [zCG hm, zCG h2];exact zJu (zDk hsc hm) (zDk hsc h2) h3
theorem fs_plan (hsc : scfE s = 0) (hs2 : s.members.length ≤ 40) : planE (fsT s) = 0 := by
 have hl := zDA (s := s);rw [planE, if_neg (by omega), if_neg (by rw [fs_tasks hs2]; exact fun q => q rfl), if_neg (by rw [zMs hsc]; omega)]
theorem zLg (hs2 : s.members.length ≤ 40) : Fair (fsT s) := fun x hx => by
 obtain ⟨i, hi⟩ := List.mem_iff_getElem?.1 hx;have hl := (List.getElem?_eq_some_iff.1 hi).1;rw [zDA] at hl;obtain ⟨o, ho⟩ : ∃ o, s.members[i]? = some o := ⟨_, List.getElem?_eq_getElem hl⟩
 rw [zI7 ho] at hi; cases hi;refine ⟨?_, ?_, ?_⟩
 · have := zLb (s := s) (k := i) (j := s.members.length);show (ndP s i s.members.length).length ≤ 1000;omega
 · show (nmM i).size ≤ 1000;have := zHT (k := i) (by omega);rw [nmM, ByteArray.size_append];have : (⟨#[109]⟩ : ByteArray).size = 1 := rfl;omega
 · refine ⟨show trM.size ≤ 1000 by decide, ?_, nm7 tr_run zKJ⟩;show PCalls Tryz.prog 66 [.str (nmM i)] (.bool (isNm (nmM i)));rw [zKu (by omega)];exact nm7 (List.map_inj_left.1 nm_runs i (List.mem_range.2 (by omega))) (zJH i (by omega))
end
end Go.Proofs.YtnbcmoaofmkjhaaGreatDoor.E7
