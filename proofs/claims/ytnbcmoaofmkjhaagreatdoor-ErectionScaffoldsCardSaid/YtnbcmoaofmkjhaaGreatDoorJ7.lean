import Derived.Test.YtnbcmoaofmkjhaaGreatDoorJ6
set_option linter.unusedSimpArgs false
set_option linter.unusedVariables false
set_option maxRecDepth 100000
namespace Go.Proofs.YtnbcmoaofmkjhaaGreatDoor.E7
open Go Go.Pv Go.Proofs.YtnbcmoaofmkjhaaGreatDoor
section
variable {P : Program} {ρ : Operand → PV} {h : Heap} {key : Key} {x y : Operand} {t : TypeId} {α β : Type} [DecidableEq α] {f : α → PV} {g : β → PV}
theorem zH2 {kt et : TypeId} {k : Key} {l : List (α × β)} {a : α} {z : β} (hf : ∀ a b, keyEq (f a) (f b) = decide (a = b)) (hko : ∀ a, keyOk P kt (f a)) (hx : ρ x = .map k) (hy : ρ y = f a) (hm : MapAt h k (zBb f g l)) (ht : mapTy P t = some (kt, et)) (hz : zF1 P et = true) (hzv : zFZ P et = g z) :
   eff P ρ h key (.lookup t x y true) = ⟨True, .tup [g ((aGet a l).getD z), .bool (aGet a l).isSome], [], [k], false⟩ := by
 have h1 : zEq P et true (zBB (f a) (zBb f g l)) = .tup [g ((aGet a l).getD z), .bool (aGet a l).isSome] := by
   rw [zFv hf];unfold zEq;rw [hzv];cases aGet a l <;> rfl
 obtain ⟨bs, clk, hm, _⟩ := hm;simp only [eff, hx, hy, zBv, ht, hm, h1, hz];simp [hko a];exact fun u w hu => zJ6 (g := g) (l := l) hko (u, w) hu
end
def kn (n : Node) : PV := .agg n.enc
theorem kn_eq (a b : Node) : keyEq (kn a) (kn b) = decide (a = b) := by
 show scsEq a.enc b.enc = _;rw [Bool.eq_iff_iff];cases a; cases b;simp [Node.enc, scsEq, scEq, and_assoc]
theorem kn_ok (a : Node) : keyOk Tryz.prog 65 (kn a) := by
 show zI3 Tryz.prog 65 a.enc = true;kernel_rfl
def kmb (n : Member) : PV := .agg n.enc
theorem zLL (a b : Member) : keyEq (kmb a) (kmb b) = decide (a = b) := by
 show scsEq a.enc b.enc = _;rw [Bool.eq_iff_iff];cases a; cases b;simp [Member.enc, scsEq, scEq, and_assoc]
theorem zMj (a : Member) : keyOk Tryz.prog 47 (kmb a) := by
 show zI3 Tryz.prog 47 a.enc = true;kernel_rfl
def NdI (ns : List Node) (k : Nat) (mp : List (Node × Int)) : Prop := ∀ n, (aGet n mp).isSome = decide (n ∈ ns.take k)
theorem NdI.nil {ns : List Node} : NdI ns 0 [] := fun n => by simp [aGet]
theorem NdI.step {ns : List Node} {k : Nat} {mp : List (Node × Int)} {n : Node} {v : Int} (h : NdI ns k mp) (ht : ns.take (k + 1) = ns.take k ++ [n]) : NdI ns (k + 1) (aSet n v mp) := fun x => by
 rw [zDg, ht];by_cases e : x = n
 · subst e; simp
 · rw [if_neg e, h x]; simp [e]
theorem NdI.all {ns : List Node} {k : Nat} {mp : List (Node × Int)} (h : NdI ns k mp) (hk : ns.length ≤ k) (n : Node) : (aGet n mp).isSome = decide (0 ≤ ixA (ndK n) ns) := by
 rw [h n, List.take_of_length_le hk];exact decide_eq_decide.2 ndK_mem.symm
def MbI (ms : List Member) (k : Nat) (mm : List (Member × Bool)) : Prop := ∀ m, (aGet m mm).getD false = decide (m ∈ ms.take k)
theorem MbI.nil {ms : List Member} : MbI ms 0 [] := fun n => by simp [aGet]
theorem MbI.step {ms : List Member} {k : Nat} {mm : List (Member × Bool)} {m : Member} (h : MbI ms k mm) (ht : ms.take (k + 1) = ms.take k ++ [m]) : MbI ms (k + 1) (aSet m true mm) := fun x => by
 rw [zDg, ht];by_cases e : x = m
 · subst e; simp
 · rw [if_neg e, h x]; simp [e]
def co3 (n : Node) (k : Nat) : Int := [n.px, n.py, n.pz].getD k 0
theorem co3_v {n : Node} {k : Nat} (hk : k < 3) : n.enc.getD ((k : Int)).toNat .dead = .int (co3 n k) := by
 match k, hk with
 | 0, _ => rfl
 | 1, _ => rfl
 | 2, _ => rfl
theorem spc_all {n : Node} (h : ∀ i, i < 3 → cordB (co3 n i) = true) : spcB n = true := spc_t (h 0 (by decide)) (h 1 (by decide)) (h 2 (by decide))
theorem zL2 {n : Node} {k : Nat} (hk : k < 3) (h : cordB (co3 n k) = false) : spcB n = false := by
 match k, hk, h with
 | 0, _, h => exact spc_1 h
 | 1, _, h => exact spc_2 h
 | 2, _, h => exact spc_3 h
theorem zBz {c0 : Nat → Nat} {k' : Key} {d g : Nat} (hk : k'.2 < c0 k'.1) (hg : g = c0 d) : k' ≠ (d, g) := fun e => by
 subst e; simp only at hk; omega
theorem zGJ {r : Nat → PV} {h : Heap} {cnt : Nat → Nat} (hk : Known ⟨r, h, cnt⟩) {d g : Nat} {o : PObj} (h1 : h (d, g) = some o) : g < cnt d := hk (d, g) o h1
theorem zID {r : Nat → PV} {h : Heap} {cnt : Nat → Nat} (hk : Known ⟨r, h, cnt⟩) {d g : Nat} {es : List (PV × PV)} (hm : MapAt h (d, g) es) : g < cnt d := by
 obtain ⟨bs, clk, h1, _⟩ := hm;exact hk (d, g) _ h1
def ReadR (s : Scaffold) (v : PV) : Prop := ∃ k : Key, v = .tup [.agg [.lit true 3 (s.nodes.map Node.enc), .lit true 3 (s.members.map Member.enc), .map k], .int (scfE s)]
theorem zCM {s : Scaffold} {e : Int} {k : Key} (h : e = scfE s) : ReadR s (.tup [.agg [.lit true 3 (s.nodes.map Node.enc), .lit true 3 (s.members.map Member.enc), .map k], .int e]) := ⟨k, by rw [h]⟩
theorem inSpaceC (n : Node) : PCalls Tryz.prog 87 [.agg n.enc] (.bool (spcB n)) := by
 refine pco Tryz.func87 rfl rfl (.sc _) (zAa rfl fun K1 hK1 => p_new rfl (e_box (n := 3) rfl rfl) ⟨rfl, by decide⟩ (p_aS rfl (p_end (hK1 _ ?_))));refine zAf (zAa rfl fun K2 hK2 => p_e rfl (e_faQ pl3 rfl) (p_e rfl (e_lH (v := .sc _) rfl w_ rfl) (p_e rfl (e_faQ pl3 rfl) (p_e rfl (e_lH (v := .sc _) rfl w_ rfl) (p_e rfl (e_faQ pl3 rfl) (p_e rfl (e_lH (v := .sc _) rfl w_ rfl) ?_))))));refine p_e rfl (zES (zs := [.int 0, .int 0, .int 0]) (pl := [(0, 1, false), (1, 1, false), (2, 1, false)]) (by kernel_rfl) (by kernel_rfl) (by kernel_rfl) rfl rfl (by exact ⟨by decide, rfl, nb_, rfl, ⟨by decide, rfl, nb_, rfl, ⟨by decide, rfl, nb_, rfl, trivial⟩⟩⟩) rfl) (p_mS rfl (p_end (hK2 _ ?_)));refine zAg fun K3 hK3 => zAE (α := Nat) [11] (fun (k : Nat) => [(12, .int (k))]) (fun (k : Nat) (h : Heap) (_ : Nat → Nat) => ((k) ≤ 3) ∧ (∀ i, i < (k) → cordB (co3 n i) = true)) (fun (k : Nat) => 3 - (k)) (0) (by exact ⟨rfl, trivial⟩) (by exact ⟨by omega, by exact zLv⟩) fun k r4 h5 c6 hj7 => ?_;obtain ⟨hk, hin⟩ := hj7;try dsimp only at hk
 try dsimp only at hin
 show pwp _ _ (loopQ _ _ _) ⟨sets (mix _ _ _) [(12, .int k)], _, _⟩;refine zAa rfl fun K8 hK8 => p_e rfl (e_lt rfl rfl) (p_end (hK8 _ ?_));refine zAe rfl fun K9 hK9 => ⟨fun hb10 => ?_, fun hb10 => ?_⟩
 ·try simp only [zz] at hb10
  have hk3 : k < 3 := by omega
  refine zAl (zAb (hK9 _ ?_));refine zAg fun K11 hK11 => zAa rfl fun K12 hK12 => p_e rfl (zH3 (n := 3) (e := 3) (kd := .i64) (i := (k : Int)) (cs := n.enc) rfl rfl (by kernel_rfl) (by kernel_rfl) (by kernel_rfl) (by omega) rfl (co3_v hk3)) (p_aS rfl (p_end (hK12 _ ?_)));refine zAm rfl fun K13 hK13 => zAM (g_mS rfl rfl (g_e rfl (e_lt rfl rfl) (g_mS rfl rfl ?_)));refine zAw (fun hb14 => ?_) (fun hb14 => ?_)
  ·try simp only [zz] at hb14
   iterate 2 refine gk_ ?_
   refine g_pT rfl rfl rfl (g_end (ds := [18, 19]) rfl rfl (hK13 _ ?_));refine zAt (t := true) rfl (fun _ => ?_) nofun;refine zAa rfl fun K15 hK15 => p_aS rfl (p_end (hK15 _ ?_));refine zAh (zAc (zAk (zAP (zAc (zAk (end1 (v := .sc _) rfl ?_))))));exact out_b (zL2 hk3 (decide_eq_false (by omega))).symm
  try simp only [zz] at hb14
  refine g_mS rfl rfl (g_e rfl (e_gt rfl rfl) (g_pF rfl rfl rfl (g_end (ds := [18, 19]) rfl rfl (hK13 _ ?_))));refine zAt rfl (fun hb16 => ?_) (fun hb16 => ?_)
  ·try simp only [zz] at hb16
   refine zAa rfl fun K17 hK17 => p_aS rfl (p_end (hK17 _ ?_));refine zAh (zAc (zAk (zAP (zAc (zAk (end1 (v := .sc _) rfl ?_))))));exact out_b (zL2 hk3 (decide_eq_false (by omega))).symm
  try simp only [zz] at hb16
  refine zAl (zAj (zAb (hK11 _ ?_)));refine zAn rfl fun K18 hK18 => p_e rfl (e_adL rfl rfl) (p_mS rfl (p_end (hK18 _ ?_)));exact zAo (k + 1) (by show _ < _; omega) ⟨rfl, trivial⟩ ⟨rfl, trivial⟩ (by exact ⟨by show _ + 1 ≤ _; omega, by exact zGo (p := fun i => cordB (co3 n i) = true) hin (decide_eq_true (by omega))⟩)
 try simp only [zz] at hb10
 obtain rfl : k = 3 := by omega
 refine zAJ (zAK ?_);clear hK9 K9;refine zAC (zAA (zAb (hK3 _ ?_)));refine zAa rfl fun K19 hK19 => p_aS rfl (p_end (hK19 _ ?_));refine zAh (end1 (v := .sc _) rfl ?_);exact out_b (spc_all hin).symm
theorem hasN (s : Scaffold) (z : Int) (hlen : s.nodes.length ≤ 1000000) : PCalls Tryz.prog 88 [.int z, .lptr true 2 [s.enc] 0 0] (.bool (decide (0 ≤ z ∧ z < (s.nodes.length : Int)))) := by
 refine pco Tryz.func88 rfl rfl (.sc _) (zAa rfl fun K1 hK1 => p_aS rfl (p_end (hK1 _ ?_)));refine zAm rfl fun K2 hK2 => zAM (g_mS rfl rfl (g_e rfl (e_ge rfl rfl) (g_mS rfl rfl ?_)));refine zAw (fun hb3 => ?_) (fun hb3 => ?_)
 ·try simp only [zz] at hb3
  refine g_mS rfl rfl (g_e rfl (e_fb pl2 rfl) (g_e rfl (zBD (v := .lit _ _ _) rfl (by kernel_rfl) (by kernel_rfl) (by kernel_rfl) (by exact Nat.zero_lt_one) (by decide) rfl) (g_e rfl (e_len rfl (by kernel_rfl)) (g_e rfl (e_lt rfl rfl) (g_pT rfl rfl rfl (g_aS rfl rfl (g_end (ds := [7, 8, 9, 10, 11]) rfl rfl (hK2 _ ?_))))))));refine zAh (end1 (v := .sc _) rfl ?_);exact out_b (by rw [Bool.eq_iff_iff]; simp only [decide_eq_true_eq, lM]; omega)
 try simp only [zz] at hb3
 iterate 5 refine gk_ ?_
 refine g_pF rfl rfl rfl (g_aS rfl rfl (g_end (ds := [7, 8, 9, 10, 11]) rfl rfl (hK2 _ ?_)));refine zAh (end1 (v := .sc _) rfl ?_);exact out_b (decide_eq_false (by omega)).symm
theorem withinP (z m : Int) : PCalls Tryz.prog 89 [.int z, .int m] (.bool (decide (0 ≤ z ∧ z ≤ m))) := by
 refine pco Tryz.func89 rfl rfl (.sc _) (zAa rfl fun K1 hK1 => p_aS rfl (p_end (hK1 _ ?_))); clear hK1 K1;refine zAm rfl fun K2 hK2 => zAM (g_mS rfl rfl (g_e rfl (e_ge rfl rfl) (g_mS rfl rfl ?_)));refine zAw (fun hb3 => ?_) (fun hb3 => ?_)
 ·try simp only [zz] at hb3
  refine g_mS rfl rfl (g_mS rfl rfl (g_e rfl (e_le rfl rfl) (g_pT rfl rfl rfl (g_aS rfl rfl (g_end (ds := [8, 9, 10]) rfl rfl (hK2 _ ?_)))))); clear hK2 K2;refine zAh (end1 (v := .sc _) rfl ?_);exact out_b (by first | rfl | (rw [Bool.eq_iff_iff]; simp only [decide_eq_true_eq, Bool.false_eq_true, eq_self_iff_true, true_iff, false_iff, iff_true, iff_false]; omega) | (exfalso; simp_all))
 try simp only [zz] at hb3
 iterate 3 refine gk_ ?_
 refine g_pF rfl rfl rfl (g_aS rfl rfl (g_end (ds := [8, 9, 10]) rfl rfl (hK2 _ ?_))); clear hK2 K2;refine zAh (end1 (v := .sc _) rfl ?_);exact out_b (by first | rfl | (rw [Bool.eq_iff_iff]; simp only [decide_eq_true_eq, Bool.false_eq_true, eq_self_iff_true, true_iff, false_iff, iff_true, iff_false]; omega) | (exfalso; simp_all))
theorem rightH (h0 : Heap) (c0 : Nat → Nat) (s : Scaffold) (m : Member) (a b : Node) (q : Nat) (mp : List (Node × Int)) (hm : MapAt h0 (14, q) (zBb kn PV.int mp)) (hmp : ∀ n, (aGet n mp).isSome = decide (0 ≤ ixA (ndK n) s.nodes)) (hlen : s.nodes.length ≤ 1000000) (hma : 0 ≤ m.a ∧ m.a < (s.nodes.length : Int)) (hmb : 0 ≤ m.b ∧ m.b < (s.nodes.length : Int)) (ha : s.nodes[m.a.toNat]? = some a) (hb : s.nodes[m.b.toNat]? = some b) (hmk : 0 ≤ m.kind ∧ m.kind ≤ 9) : zAy Tryz.prog 90 [.agg [.lit true 3 (s.nodes.map Node.enc), .lit true 3 (s.members.map Member.enc), .map (14, q)], .agg m.enc] h0 c0 (fun v h' _ => v = .bool (geoB s.nodes m) ∧ ∀ k' : Key, k'.2 < c0 k'.1 → h' k' = h0 k') := by
 refine hco Tryz.func90 rfl rfl (zAa rfl fun K1 hK1 => p_new rfl (e_box (n := 3) rfl rfl) ⟨rfl, by decide⟩ (p_new rfl (e_box (n := 3) rfl rfl) ⟨rfl, by decide⟩ (p_aS rfl (p_end (hK1 _ ?_))))); clear hK1 K1;refine zAm rfl fun K2 hK2 => zA0 (s_e rfl (e_faQ [(0, 2, true), (2, 1, false)] rfl) (s_e rfl (e_faQ pl2 rfl) (zAz [2] (by simp) rfl rfl rfl rfl (e_lH (v := .lit _ _ _) rfl (h1_ w_) rfl) trivial (s_e rfl (e_faQ pl3 rfl) (zAz [3] (by simp) rfl rfl rfl rfl (e_lH (v := .sc _) rfl w_ rfl) trivial (s_e rfl (e_ixL rfl rfl) ?_))))));refine s_e rfl (e_lB (n := 3) rfl (by first | exact zBj ha rfl)) (s_e rfl (e_faQ [(0, 2, true), (2, 1, false)] rfl) (s_e rfl (e_faQ pl2 rfl) (zAz [2] (by simp) rfl rfl rfl rfl (e_lH (v := .lit _ _ _) rfl (h1_ w_) rfl) trivial (s_e rfl (e_faQ pl3 rfl) (zAz [3] (by simp) rfl rfl rfl rfl (e_lH (v := .sc _) rfl w_ rfl) trivial (s_e rfl (e_ixL rfl rfl) (s_e rfl (e_lB (n := 3) rfl (by first | exact zBj hb rfl)) ?_)))))));refine s_new [] (by simp) rfl rfl rfl rfl (zAR (cs := [.int 0, .int 0, .int 0]) (n := 3) (by kernel_rfl) rfl (by decide)) (zAG (by decide)) (s_new [] (by simp) rfl rfl rfl rfl (zAR (cs := [.int 0, .int 0, .int 0]) (n := 3) (by kernel_rfl) rfl (by decide)) (zAG (by decide)) (zA4 [5] (by simp) rfl rfl (zAB rfl (h1_ w_) rfl rfl rfl (by kernel_rfl) rfl (by kernel_rfl)) trivial (zA4 [6] (by simp) rfl rfl (zAB rfl (h1_ w_) rfl rfl rfl (by kernel_rfl) rfl (by kernel_rfl)) trivial (s_end (ds := []) (by kernel_rfl) (by kernel_rfl) (hK2 _ ?_))))); clear hK2 K2;refine zAf (zAa rfl fun K3 hK3 => p_e rfl (e_faQ pl3 rfl) (p_e rfl (e_lH (v := .sc _) rfl (h4_ w_) rfl) (p_end (hK3 _ ?_)))); clear hK3 K3;refine zAg fun K4 hK4 => zAf (zAa rfl fun K5 hK5 => p_e rfl (e_eq rfl rfl) (p_aS rfl (p_end (hK5 _ ?_)))); clear hK5 K5;refine zA1 [2, 3, 5, 6, 26] [(27, .bool (if (decide (m.kind = (0))) = true then (decide (m.kind = (0))) else (decide (m.kind = (7)))))] (fun K6 hK6 => ?_) (fun r7 => ?_)
 ·skip
  refine zAt rfl (fun hb8 => ?_) (fun hb8 => ?_)
  ·have hb8R := hb8; try simp only [zz] at hb8
   refine zAl ?_;exact zAb (hK6 _ ⟨rfl, rfl, rfl, rfl, rfl, trivial⟩ ⟨(congrArg PV.bool (show ((decide (m.kind = (0))) : Bool) = (if (decide (m.kind = (0))) = true then (decide (m.kind = (0))) else (decide (m.kind = (7)))) by rw [hb8R]; rfl)), trivial⟩)
  have hb8R := hb8; try simp only [zz] at hb8
  refine zAn rfl fun K9 hK9 => p_e rfl (e_eq rfl rfl) (p_aS rfl (p_end (hK9 _ ?_))); clear hK9 K9;exact zAb (hK6 _ ⟨rfl, rfl, rfl, rfl, rfl, trivial⟩ ⟨(congrArg PV.bool (show ((decide (m.kind = (7))) : Bool) = (if (decide (m.kind = (0))) = true then (decide (m.kind = (0))) else (decide (m.kind = (7)))) by rw [hb8R]; rfl)), trivial⟩)
 refine zAt rfl (fun hb10 => ?_) (fun hb10 => ?_)
 ·have hb10R := hb10; try simp only [zz] at hb10
  refine zA1 [] [(4, .bool (((decide (a.px = b.px)) && (decide (a.py = b.py))) && (decide (a.pz < b.pz))))] (fun K11 hK11 => ?_) (fun r12 => ?_)
  ·skip
   refine zBw rfl fun K13 hK13 => zAM (g_e rfl (e_faQ pl3 rfl) (g_e rfl (e_lH (v := .sc _) rfl (h1_ w_) rfl) (g_e rfl (e_faQ pl3 rfl) (g_e rfl (e_lH (v := .sc _) rfl w_ rfl) (g_e rfl (e_eq rfl rfl) (g_mS rfl rfl ?_))))));refine zAw (fun hb14 => ?_) (fun hb14 => ?_)
   ·have hb14R := hb14; try simp only [zz] at hb14
    refine g_e rfl (e_faQ pl3 rfl) (g_e rfl (e_lH (v := .sc _) rfl (h1_ w_) rfl) (g_e rfl (e_faQ pl3 rfl) (g_e rfl (e_lH (v := .sc _) rfl w_ rfl) (g_e rfl (e_eq rfl rfl) (g_pT rfl rfl rfl (g_mS rfl rfl ?_))))));refine zAw (fun hb15 => ?_) (fun hb15 => ?_)
    ·have hb15R := hb15; try simp only [zz] at hb15
     refine g_e rfl (e_faQ pl3 rfl) (g_e rfl (e_lH (v := .sc _) rfl (h1_ w_) rfl) (g_e rfl (e_faQ pl3 rfl) (g_e rfl (e_lH (v := .sc _) rfl w_ rfl) (g_e rfl (e_lt rfl rfl) (g_pT rfl rfl rfl (g_aS rfl rfl (g_end (ds := [36, 37, 38, 39, 40, 43, 44, 45, 46, 47]) rfl rfl (hK13 _ ?_)))))))); clear hK13 K13;exact zAb (hK11 _ trivial ⟨(congrArg PV.bool (show ((decide (a.pz < b.pz)) : Bool) = (((decide (a.px = b.px)) && (decide (a.py = b.py))) && (decide (a.pz < b.pz))) by simp [hb15R, hb14R])), trivial⟩)
    have hb15R := hb15; try simp only [zz] at hb15
    iterate 5 refine gk_ ?_
    refine g_pF rfl rfl rfl (g_aS rfl rfl (g_end (ds := [36, 37, 38, 39, 40, 43, 44, 45, 46, 47]) rfl rfl (hK13 _ ?_))); clear hK13 K13;exact zAb (hK11 _ trivial ⟨(congrArg PV.bool (show (false : Bool) = (((decide (a.px = b.px)) && (decide (a.py = b.py))) && (decide (a.pz < b.pz))) by simp [hb15R, hb14R])), trivial⟩)
   have hb14R := hb14; try simp only [zz] at hb14
   iterate 5 refine gk_ ?_
   refine g_pF rfl rfl rfl (g_mS rfl rfl ?_);iterate 5 refine gk_ ?_
   refine g_pF rfl rfl rfl (g_aS rfl rfl (g_end (ds := [36, 37, 38, 39, 40, 43, 44, 45, 46, 47]) rfl rfl (hK13 _ ?_))); clear hK13 K13;exact zAb (hK11 _ trivial ⟨(congrArg PV.bool (show (false : Bool) = (((decide (a.px = b.px)) && (decide (a.py = b.py))) && (decide (a.pz < b.pz))) by rw [hb14R]; rfl)), trivial⟩)
  refine zAh (zAc (zAk (end1 (v := .sc _) rfl (⟨congrArg PV.bool ?_, fun k' hk' => (zAp (zBz hk' rfl)).trans ((zAp (zBz hk' rfl)).trans ((zAp (zBz hk' rfl)).trans ((zAp (zBz hk' rfl)).trans ((zAp (zBz hk' rfl)).trans ((zAp (zBz hk' rfl)).trans (rfl))))))⟩))));rw [zDU ha hb];clear ha hb hm;simp only [hmp] at *;clear hmp;rcases (by omega : m.kind = 0 ∨ m.kind = 1 ∨ m.kind = 2 ∨ m.kind = 3 ∨ m.kind = 4 ∨ m.kind = 5 ∨ m.kind = 6 ∨ m.kind = 7 ∨ m.kind = 8 ∨ m.kind = 9) with q2 | q2 | q2 | q2 | q2 | q2 | q2 | q2 | q2 | q2 <;> simp_all [geo2] <;> first | omega | (rw [Bool.eq_iff_iff]; simp; omega)
 have hb10R := hb10; try simp only [zz] at hb10
 refine zAf (zAa rfl fun K16 hK16 => p_e rfl (e_eq rfl rfl) (p_aS rfl (p_end (hK16 _ ?_)))); clear hK16 K16;refine zA1 [2, 3, 5, 6, 26] [(49, .bool (if (decide (m.kind = (1))) = true then (decide (m.kind = (1))) else (if (decide (m.kind = (2))) = true then (decide (m.kind = (2))) else (if (decide (m.kind = (4))) = true then (decide (m.kind = (4))) else (decide (m.kind = (5)))))))] (fun K17 hK17 => ?_) (fun r18 => ?_)
 ·skip
  refine zAt rfl (fun hb19 => ?_) (fun hb19 => ?_)
  ·have hb19R := hb19; try simp only [zz] at hb19
   refine zAl ?_;exact zAb (hK17 _ ⟨rfl, rfl, rfl, rfl, rfl, trivial⟩ ⟨(congrArg PV.bool (show ((decide (m.kind = (1))) : Bool) = (if (decide (m.kind = (1))) = true then (decide (m.kind = (1))) else (if (decide (m.kind = (2))) = true then (decide (m.kind = (2))) else (if (decide (m.kind = (4))) = true then (decide (m.kind = (4))) else (decide (m.kind = (5)))))) by rw [hb19R]; rfl)), trivial⟩)
  have hb19R := hb19; try simp only [zz] at hb19
  refine zAa rfl fun K20 hK20 => p_e rfl (e_eq rfl rfl) (p_aS rfl (p_end (hK20 _ ?_))); clear hK20 K20;refine zAt rfl (fun hb21 => ?_) (fun hb21 => ?_)
  ·have hb21R := hb21; try simp only [zz] at hb21
   refine zAl ?_;exact zAb (hK17 _ ⟨rfl, rfl, rfl, rfl, rfl, trivial⟩ ⟨(congrArg PV.bool (show ((decide (m.kind = (2))) : Bool) = (if (decide (m.kind = (1))) = true then (decide (m.kind = (1))) else (if (decide (m.kind = (2))) = true then (decide (m.kind = (2))) else (if (decide (m.kind = (4))) = true then (decide (m.kind = (4))) else (decide (m.kind = (5)))))) by simp [hb21R, hb19R])), trivial⟩)
  have hb21R := hb21; try simp only [zz] at hb21
  refine zAa rfl fun K22 hK22 => p_e rfl (e_eq rfl rfl) (p_aS rfl (p_end (hK22 _ ?_))); clear hK22 K22;refine zAt rfl (fun hb23 => ?_) (fun hb23 => ?_)
  ·have hb23R := hb23; try simp only [zz] at hb23
   refine zAl ?_;exact zAb (hK17 _ ⟨rfl, rfl, rfl, rfl, rfl, trivial⟩ ⟨(congrArg PV.bool (show ((decide (m.kind = (4))) : Bool) = (if (decide (m.kind = (1))) = true then (decide (m.kind = (1))) else (if (decide (m.kind = (2))) = true then (decide (m.kind = (2))) else (if (decide (m.kind = (4))) = true then (decide (m.kind = (4))) else (decide (m.kind = (5)))))) by simp [hb23R, hb21R, hb19R])), trivial⟩)
  have hb23R := hb23; try simp only [zz] at hb23
  refine zAn rfl fun K24 hK24 => p_e rfl (e_eq rfl rfl) (p_aS rfl (p_end (hK24 _ ?_))); clear hK24 K24;exact zAb (hK17 _ ⟨rfl, rfl, rfl, rfl, rfl, trivial⟩ ⟨(congrArg PV.bool (show ((decide (m.kind = (5))) : Bool) = (if (decide (m.kind = (1))) = true then (decide (m.kind = (1))) else (if (decide (m.kind = (2))) = true then (decide (m.kind = (2))) else (if (decide (m.kind = (4))) = true then (decide (m.kind = (4))) else (decide (m.kind = (5)))))) by simp [hb23R, hb21R, hb19R])), trivial⟩)
 refine zAt rfl (fun hb25 => ?_) (fun hb25 => ?_)
 ·have hb25R := hb25; try simp only [zz] at hb25
  refine zA1 [] [(4, .bool ((decide (a.pz = b.pz)) && (((decide (a.py = b.py)) && (decide (a.px < b.px))) || ((decide (a.px = b.px)) && (decide (a.py < b.py))))))] (fun K26 hK26 => ?_) (fun r27 => ?_)
  ·skip
   refine zBw rfl fun K28 hK28 => zAM (g_e rfl (e_faQ pl3 rfl) (g_e rfl (e_lH (v := .sc _) rfl (h1_ w_) rfl) (g_e rfl (e_faQ pl3 rfl) (g_e rfl (e_lH (v := .sc _) rfl w_ rfl) (g_e rfl (e_eq rfl rfl) (g_mS rfl rfl ?_))))));refine zAw (fun hb29 => ?_) (fun hb29 => ?_)
   ·have hb29R := hb29; try simp only [zz] at hb29
    refine g_e rfl (e_faQ pl3 rfl) (g_e rfl (e_lH (v := .sc _) rfl (h1_ w_) rfl) (g_e rfl (e_faQ pl3 rfl) (g_e rfl (e_lH (v := .sc _) rfl w_ rfl) (g_e rfl (e_eq rfl rfl) (g_mS rfl rfl ?_)))));refine zAw (fun hb30 => ?_) (fun hb30 => ?_)
    ·have hb30R := hb30; try simp only [zz] at hb30
     refine g_e rfl (e_faQ pl3 rfl) (g_e rfl (e_lH (v := .sc _) rfl (h1_ w_) rfl) (g_e rfl (e_faQ pl3 rfl) (g_e rfl (e_lH (v := .sc _) rfl w_ rfl) (g_e rfl (e_lt rfl rfl) (g_pT rfl rfl rfl (g_mS rfl rfl ?_))))));refine zAw (fun hb31 => ?_) (fun hb31 => ?_)
     ·have hb31R := hb31; try simp only [zz] at hb31
      iterate 12 refine gk_ ?_
      refine g_pT rfl rfl rfl (g_pT rfl rfl rfl (g_aS rfl rfl (g_end (ds := [60, 61, 62, 63, 64, 65, 66, 67, 68, 69, 70, 71, 72, 73, 74, 75, 76, 77, 78, 79, 80, 81, 82, 83, 84, 85]) rfl rfl (hK28 _ ?_)))); clear hK28 K28;exact zAb (hK26 _ trivial ⟨(congrArg PV.bool (show (true : Bool) = ((decide (a.pz = b.pz)) && (((decide (a.py = b.py)) && (decide (a.px < b.px))) || ((decide (a.px = b.px)) && (decide (a.py < b.py))))) by simp [hb31R, hb30R, hb29R])), trivial⟩)
     have hb31R := hb31; try simp only [zz] at hb31
     refine g_e rfl (e_faQ pl3 rfl) (g_e rfl (e_lH (v := .sc _) rfl (h1_ w_) rfl) (g_e rfl (e_faQ pl3 rfl) (g_e rfl (e_lH (v := .sc _) rfl w_ rfl) (g_e rfl (e_eq rfl rfl) (g_mS rfl rfl ?_)))));refine zAw (fun hb32 => ?_) (fun hb32 => ?_)
     ·have hb32R := hb32; try simp only [zz] at hb32
      refine g_e rfl (e_faQ pl3 rfl) (g_e rfl (e_lH (v := .sc _) rfl (h1_ w_) rfl) (g_e rfl (e_faQ pl3 rfl) (g_e rfl (e_lH (v := .sc _) rfl w_ rfl) (g_e rfl (e_lt rfl rfl) (g_pT rfl rfl rfl (g_pF rfl rfl rfl (g_pT rfl rfl rfl ?_)))))));refine g_aS rfl rfl (g_end (ds := [60, 61, 62, 63, 64, 65, 66, 67, 68, 69, 70, 71, 72, 73, 74, 75, 76, 77, 78, 79, 80, 81, 82, 83, 84, 85]) rfl rfl (hK28 _ ?_)); clear hK28 K28;exact zAb (hK26 _ trivial ⟨(congrArg PV.bool (show ((decide (a.py < b.py)) : Bool) = ((decide (a.pz = b.pz)) && (((decide (a.py = b.py)) && (decide (a.px < b.px))) || ((decide (a.px = b.px)) && (decide (a.py < b.py))))) by simp [hb32R, hb31R, hb30R, hb29R])), trivial⟩)
     have hb32R := hb32; try simp only [zz] at hb32
     iterate 5 refine gk_ ?_
     refine g_pF rfl rfl rfl (g_pF rfl rfl rfl (g_pT rfl rfl rfl (g_aS rfl rfl (g_end (ds := [60, 61, 62, 63, 64, 65, 66, 67, 68, 69, 70, 71, 72, 73, 74, 75, 76, 77, 78, 79, 80, 81, 82, 83, 84, 85]) rfl rfl (hK28 _ ?_))))); clear hK28 K28;exact zAb (hK26 _ trivial ⟨(congrArg PV.bool (show (false : Bool) = ((decide (a.pz = b.pz)) && (((decide (a.py = b.py)) && (decide (a.px < b.px))) || ((decide (a.px = b.px)) && (decide (a.py < b.py))))) by simp [hb32R, hb31R, hb30R, hb29R])), trivial⟩)
    have hb30R := hb30; try simp only [zz] at hb30
    iterate 5 refine gk_ ?_
    refine g_pF rfl rfl rfl (g_mS rfl rfl (g_e rfl (e_faQ pl3 rfl) (g_e rfl (e_lH (v := .sc _) rfl (h1_ w_) rfl) (g_e rfl (e_faQ pl3 rfl) (g_e rfl (e_lH (v := .sc _) rfl w_ rfl) (g_e rfl (e_eq rfl rfl) (g_mS rfl rfl ?_)))))));refine zAw (fun hb33 => ?_) (fun hb33 => ?_)
    ·have hb33R := hb33; try simp only [zz] at hb33
     refine g_e rfl (e_faQ pl3 rfl) (g_e rfl (e_lH (v := .sc _) rfl (h1_ w_) rfl) (g_e rfl (e_faQ pl3 rfl) (g_e rfl (e_lH (v := .sc _) rfl w_ rfl) (g_e rfl (e_lt rfl rfl) (g_pT rfl rfl rfl (g_pF rfl rfl rfl (g_pT rfl rfl rfl ?_)))))));refine g_aS rfl rfl (g_end (ds := [60, 61, 62, 63, 64, 65, 66, 67, 68, 69, 70, 71, 72, 73, 74, 75, 76, 77, 78, 79, 80, 81, 82, 83, 84, 85]) rfl rfl (hK28 _ ?_)); clear hK28 K28;exact zAb (hK26 _ trivial ⟨(congrArg PV.bool (show ((decide (a.py < b.py)) : Bool) = ((decide (a.pz = b.pz)) && (((decide (a.py = b.py)) && (decide (a.px < b.px))) || ((decide (a.px = b.px)) && (decide (a.py < b.py))))) by simp [hb33R, hb30R, hb29R])), trivial⟩)
    have hb33R := hb33; try simp only [zz] at hb33
    iterate 5 refine gk_ ?_
    refine g_pF rfl rfl rfl (g_pF rfl rfl rfl (g_pT rfl rfl rfl (g_aS rfl rfl (g_end (ds := [60, 61, 62, 63, 64, 65, 66, 67, 68, 69, 70, 71, 72, 73, 74, 75, 76, 77, 78, 79, 80, 81, 82, 83, 84, 85]) rfl rfl (hK28 _ ?_))))); clear hK28 K28;exact zAb (hK26 _ trivial ⟨(congrArg PV.bool (show (false : Bool) = ((decide (a.pz = b.pz)) && (((decide (a.py = b.py)) && (decide (a.px < b.px))) || ((decide (a.px = b.px)) && (decide (a.py < b.py))))) by simp [hb33R, hb30R, hb29R])), trivial⟩)
   have hb29R := hb29; try simp only [zz] at hb29
   iterate 26 refine gk_ ?_
   refine g_pF rfl rfl rfl (g_aS rfl rfl (g_end (ds := [60, 61, 62, 63, 64, 65, 66, 67, 68, 69, 70, 71, 72, 73, 74, 75, 76, 77, 78, 79, 80, 81, 82, 83, 84, 85]) rfl rfl (hK28 _ ?_))); clear hK28 K28;exact zAb (hK26 _ trivial ⟨(congrArg PV.bool (show (false : Bool) = ((decide (a.pz = b.pz)) && (((decide (a.py = b.py)) && (decide (a.px < b.px))) || ((decide (a.px = b.px)) && (decide (a.py < b.py))))) by rw [hb29R]; rfl)), trivial⟩)
  refine zAh (zAc (zAk (end1 (v := .sc _) rfl (⟨congrArg PV.bool ?_, fun k' hk' => (zAp (zBz hk' rfl)).trans ((zAp (zBz hk' rfl)).trans ((zAp (zBz hk' rfl)).trans ((zAp (zBz hk' rfl)).trans ((zAp (zBz hk' rfl)).trans ((zAp (zBz hk' rfl)).trans (rfl))))))⟩))));rw [zDU ha hb];clear ha hb hm;simp only [hmp] at *;clear hmp;rcases (by omega : m.kind = 0 ∨ m.kind = 1 ∨ m.kind = 2 ∨ m.kind = 3 ∨ m.kind = 4 ∨ m.kind = 5 ∨ m.kind = 6 ∨ m.kind = 7 ∨ m.kind = 8 ∨ m.kind = 9) with q2 | q2 | q2 | q2 | q2 | q2 | q2 | q2 | q2 | q2 <;> simp_all [geo2] <;> first | omega | (rw [Bool.eq_iff_iff]; simp; omega)
 have hb25R := hb25; try simp only [zz] at hb25
 refine zAa rfl fun K34 hK34 => p_e rfl (e_eq rfl rfl) (p_aS rfl (p_end (hK34 _ ?_))); clear hK34 K34;refine zAt rfl (fun hb35 => ?_) (fun hb35 => ?_)
 ·have hb35R := hb35; try simp only [zz] at hb35
  refine zA1 [] [(4, .bool ((decide (a.pz < b.pz)) && ((decide (a.px ≠ b.px)) || (decide (a.py ≠ b.py)))))] (fun K36 hK36 => ?_) (fun r37 => ?_)
  ·skip
   refine zBw rfl fun K38 hK38 => zAM (g_e rfl (e_faQ pl3 rfl) (g_e rfl (e_lH (v := .sc _) rfl (h1_ w_) rfl) (g_e rfl (e_faQ pl3 rfl) (g_e rfl (e_lH (v := .sc _) rfl w_ rfl) (g_e rfl (e_lt rfl rfl) (g_mS rfl rfl ?_))))));refine zAw (fun hb39 => ?_) (fun hb39 => ?_)
   ·have hb39R := hb39; try simp only [zz] at hb39
    refine g_e rfl (e_faQ pl3 rfl) (g_e rfl (e_lH (v := .sc _) rfl (h1_ w_) rfl) (g_e rfl (e_faQ pl3 rfl) (g_e rfl (e_lH (v := .sc _) rfl w_ rfl) (g_e rfl (e_ne rfl rfl) (g_mS rfl rfl ?_)))));refine zAw (fun hb40 => ?_) (fun hb40 => ?_)
    ·have hb40R := hb40; try simp only [zz] at hb40
     iterate 5 refine gk_ ?_
     refine g_pT rfl rfl rfl (g_pT rfl rfl rfl (g_aS rfl rfl (g_end (ds := [95, 96, 97, 98, 99, 100, 101, 102, 103, 104, 105, 106]) rfl rfl (hK38 _ ?_)))); clear hK38 K38;exact zAb (hK36 _ trivial ⟨(congrArg PV.bool (show (true : Bool) = ((decide (a.pz < b.pz)) && ((decide (a.px ≠ b.px)) || (decide (a.py ≠ b.py)))) by simp [hb40R, hb39R])), trivial⟩)
    have hb40R := hb40; try simp only [zz] at hb40
    refine g_e rfl (e_faQ pl3 rfl) (g_e rfl (e_lH (v := .sc _) rfl (h1_ w_) rfl) (g_e rfl (e_faQ pl3 rfl) (g_e rfl (e_lH (v := .sc _) rfl w_ rfl) (g_e rfl (e_ne rfl rfl) (g_pF rfl rfl rfl (g_pT rfl rfl rfl (g_aS rfl rfl ?_)))))));refine g_end (ds := [95, 96, 97, 98, 99, 100, 101, 102, 103, 104, 105, 106]) rfl rfl (hK38 _ ?_); clear hK38 K38;exact zAb (hK36 _ trivial ⟨(congrArg PV.bool (show ((decide (a.py ≠ b.py)) : Bool) = ((decide (a.pz < b.pz)) && ((decide (a.px ≠ b.px)) || (decide (a.py ≠ b.py)))) by simp [hb40R, hb39R])), trivial⟩)
   have hb39R := hb39; try simp only [zz] at hb39
   iterate 12 refine gk_ ?_
   refine g_pF rfl rfl rfl (g_aS rfl rfl (g_end (ds := [95, 96, 97, 98, 99, 100, 101, 102, 103, 104, 105, 106]) rfl rfl (hK38 _ ?_))); clear hK38 K38;exact zAb (hK36 _ trivial ⟨(congrArg PV.bool (show (false : Bool) = ((decide (a.pz < b.pz)) && ((decide (a.px ≠ b.px)) || (decide (a.py ≠ b.py)))) by rw [hb39R]; rfl)), trivial⟩)
  refine zAh (zAc (zAk (end1 (v := .sc _) rfl (⟨congrArg PV.bool ?_, fun k' hk' => (zAp (zBz hk' rfl)).trans ((zAp (zBz hk' rfl)).trans ((zAp (zBz hk' rfl)).trans ((zAp (zBz hk' rfl)).trans ((zAp (zBz hk' rfl)).trans ((zAp (zBz hk' rfl)).trans (rfl))))))⟩))));rw [zDU ha hb];clear ha hb hm;simp only [hmp] at *;clear hmp;rcases (by omega : m.kind = 0 ∨ m.kind = 1 ∨ m.kind = 2 ∨ m.kind = 3 ∨ m.kind = 4 ∨ m.kind = 5 ∨ m.kind = 6 ∨ m.kind = 7 ∨ m.kind = 8 ∨ m.kind = 9) with q2 | q2 | q2 | q2 | q2 | q2 | q2 | q2 | q2 | q2 <;> simp_all [geo2] <;> first | omega | (rw [Bool.eq_iff_iff]; simp; omega)
 have hb35R := hb35; try simp only [zz] at hb35
 refine zAa rfl fun K41 hK41 => p_e rfl (e_eq rfl rfl) (p_aS rfl (p_end (hK41 _ ?_))); clear hK41 K41;refine zAt rfl (fun hb42 => ?_) (fun hb42 => ?_)
 ·have hb42R := hb42; try simp only [zz] at hb42
  refine zAa rfl fun K43 hK43 => p_e rfl (e_faQ [(0, 2, true), (2, 1, false)] rfl) (p_e rfl (e_lH (v := .map _) rfl (h1_ (h4_ w_)) rfl) (p_e rfl (e_faQ pl3 rfl) (p_e rfl (e_lH (v := .sc _) rfl w_ rfl) (p_e rfl (e_faQ pl3 rfl) (p_e rfl (e_lH (v := .sc _) rfl (h1_ w_) rfl) (p_e rfl (e_faQ pl3 rfl) ?_))))));refine p_e rfl (e_lH (v := .sc _) rfl (h1_ w_) rfl) (p_e rfl (zCt (cs := Node.enc (⟨b.px, a.py, a.pz⟩ : Node)) (zs := [.int 0, .int 0, .int 0]) (pl := [(0, 1, false), (1, 1, false), (2, 1, false)]) (by kernel_rfl) (by kernel_rfl) (by kernel_rfl) rfl rfl (by exact ⟨by decide, rfl, nb_, rfl, ⟨by decide, rfl, nb_, rfl, ⟨by decide, rfl, nb_, rfl, trivial⟩⟩⟩) rfl) (p_e rfl (zH2 (kt := 65) (et := 3) (f := kn) (g := PV.int) (a := (⟨b.px, a.py, a.pz⟩ : Node)) (l := mp) (z := 0) kn_eq kn_ok rfl rfl (MapAt.keep hm (h2_ (h4_ (rfl)))) (by kernel_rfl) (by kernel_rfl) (by first | rfl | kernel_rfl)) (p_e rfl (zAi (v := .tup _) rfl) (p_e rfl (e_ext (v := .sc _) rfl (by simp) rfl) (p_e rfl (e_ext (v := .sc _) rfl (by simp) rfl) (p_aS rfl (p_aS rfl ?_)))))));refine p_end (hK43 _ ?_); clear hK43 K43;refine zAa rfl fun K44 hK44 => p_e rfl (e_faQ [(0, 2, true), (2, 1, false)] rfl) (p_e rfl (e_lH (v := .map _) rfl (h1_ (h4_ w_)) rfl) (p_e rfl (e_faQ pl3 rfl) (p_e rfl (e_lH (v := .sc _) rfl (h1_ w_) rfl) (p_e rfl (e_faQ pl3 rfl) (p_e rfl (e_lH (v := .sc _) rfl w_ rfl) (p_e rfl (e_faQ pl3 rfl) ?_))))));refine p_e rfl (e_lH (v := .sc _) rfl (h1_ w_) rfl) (p_e rfl (zCt (cs := Node.enc (⟨a.px, b.py, a.pz⟩ : Node)) (zs := [.int 0, .int 0, .int 0]) (pl := [(0, 1, false), (1, 1, false), (2, 1, false)]) (by kernel_rfl) (by kernel_rfl) (by kernel_rfl) rfl rfl (by exact ⟨by decide, rfl, nb_, rfl, ⟨by decide, rfl, nb_, rfl, ⟨by decide, rfl, nb_, rfl, trivial⟩⟩⟩) rfl) (p_e rfl (zH2 (kt := 65) (et := 3) (f := kn) (g := PV.int) (a := (⟨a.px, b.py, a.pz⟩ : Node)) (l := mp) (z := 0) kn_eq kn_ok rfl rfl (MapAt.keep hm (h2_ (h4_ (rfl)))) (by kernel_rfl) (by kernel_rfl) (by first | rfl | kernel_rfl)) (p_e rfl (zAi (v := .tup _) rfl) (p_e rfl (e_ext (v := .sc _) rfl (by simp) rfl) (p_e rfl (e_ext (v := .sc _) rfl (by simp) rfl) (p_aS rfl (p_aS rfl ?_)))))));refine p_end (hK44 _ ?_); clear hK44 K44;refine zA1 [] [(4, .bool (((((decide (a.pz = b.pz)) && (decide (a.px < b.px))) && (decide (a.py < b.py))) && ((aGet (⟨b.px, a.py, a.pz⟩ : Node) mp).isSome)) && ((aGet (⟨a.px, b.py, a.pz⟩ : Node) mp).isSome)))] (fun K45 hK45 => ?_) (fun r46 => ?_)
  ·skip
   refine zBw rfl fun K47 hK47 => zAM (g_e rfl (e_faQ pl3 rfl) (g_e rfl (e_lH (v := .sc _) rfl (h1_ w_) rfl) (g_e rfl (e_faQ pl3 rfl) (g_e rfl (e_lH (v := .sc _) rfl w_ rfl) (g_e rfl (e_eq rfl rfl) (g_mS rfl rfl ?_))))));refine zAw (fun hb48 => ?_) (fun hb48 => ?_)
   ·have hb48R := hb48; try simp only [zz] at hb48
    refine g_e rfl (e_faQ pl3 rfl) (g_e rfl (e_lH (v := .sc _) rfl (h1_ w_) rfl) (g_e rfl (e_faQ pl3 rfl) (g_e rfl (e_lH (v := .sc _) rfl w_ rfl) (g_e rfl (e_lt rfl rfl) (g_pT rfl rfl rfl (g_mS rfl rfl ?_))))));refine zAw (fun hb49 => ?_) (fun hb49 => ?_)
    ·have hb49R := hb49; try simp only [zz] at hb49
     refine g_e rfl (e_faQ pl3 rfl) (g_e rfl (e_lH (v := .sc _) rfl (h1_ w_) rfl) (g_e rfl (e_faQ pl3 rfl) (g_e rfl (e_lH (v := .sc _) rfl w_ rfl) (g_e rfl (e_lt rfl rfl) (g_pT rfl rfl rfl (g_mS rfl rfl ?_))))));refine zAw (fun hb50 => ?_) (fun hb50 => ?_)
     ·have hb50R := hb50; try simp only [zz] at hb50
      refine g_mS rfl rfl (g_pT rfl rfl rfl (g_mS rfl rfl ?_));refine zAw (fun hb51 => ?_) (fun hb51 => ?_)
      ·have hb51R := hb51; try simp only [zz] at hb51
       refine g_mS rfl rfl (g_pT rfl rfl rfl (g_aS rfl rfl (g_end (ds := [142, 143, 144, 145, 146, 149, 150, 151, 152, 153, 156, 159]) rfl rfl (hK47 _ ?_)))); clear hK47 K47;exact zAb (hK45 _ trivial ⟨(congrArg PV.bool (show (((aGet (⟨a.px, b.py, a.pz⟩ : Node) mp).isSome) : Bool) = (((((decide (a.pz = b.pz)) && (decide (a.px < b.px))) && (decide (a.py < b.py))) && ((aGet (⟨b.px, a.py, a.pz⟩ : Node) mp).isSome)) && ((aGet (⟨a.px, b.py, a.pz⟩ : Node) mp).isSome)) by simp [hb51R, hb50R, hb49R, hb48R])), trivial⟩)
      have hb51R := hb51; try simp only [zz] at hb51
      refine zCO rfl rfl rfl (g_pF rfl rfl rfl (g_aS rfl rfl (g_end (ds := [142, 143, 144, 145, 146, 149, 150, 151, 152, 153, 156, 159]) rfl rfl (hK47 _ ?_)))); clear hK47 K47;exact zAb (hK45 _ trivial ⟨(congrArg PV.bool (show (false : Bool) = (((((decide (a.pz = b.pz)) && (decide (a.px < b.px))) && (decide (a.py < b.py))) && ((aGet (⟨b.px, a.py, a.pz⟩ : Node) mp).isSome)) && ((aGet (⟨a.px, b.py, a.pz⟩ : Node) mp).isSome)) by simp [hb51R, hb50R, hb49R, hb48R])), trivial⟩)
     have hb50R := hb50; try simp only [zz] at hb50
     refine zCO rfl rfl rfl (g_pF rfl rfl rfl (g_mS rfl rfl (zCO rfl rfl rfl (g_pF rfl rfl rfl (g_aS rfl rfl (g_end (ds := [142, 143, 144, 145, 146, 149, 150, 151, 152, 153, 156, 159]) rfl rfl (hK47 _ ?_))))))); clear hK47 K47;exact zAb (hK45 _ trivial ⟨(congrArg PV.bool (show (false : Bool) = (((((decide (a.pz = b.pz)) && (decide (a.px < b.px))) && (decide (a.py < b.py))) && ((aGet (⟨b.px, a.py, a.pz⟩ : Node) mp).isSome)) && ((aGet (⟨a.px, b.py, a.pz⟩ : Node) mp).isSome)) by simp [hb50R, hb49R, hb48R])), trivial⟩)
    have hb49R := hb49; try simp only [zz] at hb49
    iterate 5 refine gk_ ?_
    refine g_pF rfl rfl rfl (g_mS rfl rfl (zCO rfl rfl rfl (g_pF rfl rfl rfl (g_mS rfl rfl (zCO rfl rfl rfl (g_pF rfl rfl rfl (g_aS rfl rfl ?_)))))));refine g_end (ds := [142, 143, 144, 145, 146, 149, 150, 151, 152, 153, 156, 159]) rfl rfl (hK47 _ ?_); clear hK47 K47;exact zAb (hK45 _ trivial ⟨(congrArg PV.bool (show (false : Bool) = (((((decide (a.pz = b.pz)) && (decide (a.px < b.px))) && (decide (a.py < b.py))) && ((aGet (⟨b.px, a.py, a.pz⟩ : Node) mp).isSome)) && ((aGet (⟨a.px, b.py, a.pz⟩ : Node) mp).isSome)) by simp [hb49R, hb48R])), trivial⟩)
   have hb48R := hb48; try simp only [zz] at hb48
   iterate 5 refine gk_ ?_
   refine g_pF rfl rfl rfl (g_mS rfl rfl ?_);iterate 5 refine gk_ ?_
   refine g_pF rfl rfl rfl (g_mS rfl rfl (zCO rfl rfl rfl (g_pF rfl rfl rfl (g_mS rfl rfl (zCO rfl rfl rfl (g_pF rfl rfl rfl (g_aS rfl rfl ?_)))))));refine g_end (ds := [142, 143, 144, 145, 146, 149, 150, 151, 152, 153, 156, 159]) rfl rfl (hK47 _ ?_); clear hK47 K47;exact zAb (hK45 _ trivial ⟨(congrArg PV.bool (show (false : Bool) = (((((decide (a.pz = b.pz)) && (decide (a.px < b.px))) && (decide (a.py < b.py))) && ((aGet (⟨b.px, a.py, a.pz⟩ : Node) mp).isSome)) && ((aGet (⟨a.px, b.py, a.pz⟩ : Node) mp).isSome)) by rw [hb48R]; rfl)), trivial⟩)
  refine zAh (zAc (zAk (end1 (v := .sc _) rfl (⟨congrArg PV.bool ?_, fun k' hk' => (zAp (zBz hk' rfl)).trans ((zAp (zBz hk' rfl)).trans ((zAp (zBz hk' rfl)).trans ((zAp (zBz hk' rfl)).trans ((zAp (zBz hk' rfl)).trans ((zAp (zBz hk' rfl)).trans (rfl))))))⟩))));rw [zDU ha hb];clear ha hb hm;simp only [hmp] at *;clear hmp;rcases (by omega : m.kind = 0 ∨ m.kind = 1 ∨ m.kind = 2 ∨ m.kind = 3 ∨ m.kind = 4 ∨ m.kind = 5 ∨ m.kind = 6 ∨ m.kind = 7 ∨ m.kind = 8 ∨ m.kind = 9) with q2 | q2 | q2 | q2 | q2 | q2 | q2 | q2 | q2 | q2 <;> simp_all [geo2] <;> first | omega | (rw [Bool.eq_iff_iff]; simp; omega)
 have hb42R := hb42; try simp only [zz] at hb42
 refine zAl (zAj (zAb (hK4 _ ?_))); clear hK4 K4;refine zAa rfl fun K52 hK52 => p_e rfl (e_faQ pl3 rfl) (p_e rfl (e_lH (v := .sc _) rfl (h4_ w_) rfl) (p_e rfl (e_faQ pl3 rfl) (p_e rfl (e_lH (v := .sc _) rfl (h4_ w_) rfl) (p_e rfl (e_eq rfl rfl) (p_aS rfl (p_end (hK52 _ ?_))))))); clear hK52 K52;refine zAh (end1 (v := .sc _) rfl (⟨congrArg PV.bool ?_, fun k' hk' => (zAp (zBz hk' rfl)).trans ((zAp (zBz hk' rfl)).trans ((zAp (zBz hk' rfl)).trans ((zAp (zBz hk' rfl)).trans ((zAp (zBz hk' rfl)).trans ((zAp (zBz hk' rfl)).trans (rfl))))))⟩));rw [zDU ha hb];clear ha hb hm;simp only [hmp] at *;clear hmp;rcases (by omega : m.kind = 0 ∨ m.kind = 1 ∨ m.kind = 2 ∨ m.kind = 3 ∨ m.kind = 4 ∨ m.kind = 5 ∨ m.kind = 6 ∨ m.kind = 7 ∨ m.kind = 8 ∨ m.kind = 9) with q2 | q2 | q2 | q2 | q2 | q2 | q2 | q2 | q2 | q2 <;> simp_all [geo2] <;> first | omega | (rw [Bool.eq_iff_iff]; simp; omega)
theorem readH (h0 : Heap) (c0 : Nat → Nat) (s : Scaffold) (hs1 : s.nodes.length ≤ 1000000) (hs2 : s.members.length ≤ 1000000) : zAy Tryz.prog 74 [.agg s.enc] h0 c0 (fun v _ _ => ReadR s v) := by
 refine hco Tryz.func74 rfl rfl (zAa rfl fun K1 hK1 => p_new rfl (e_box (n := 2) rfl rfl) ⟨rfl, by decide⟩ (p_new rfl (zAR (cs := [.nil, .nil, .sc (.map none)]) (n := 3) (by kernel_rfl) rfl (by decide)) (zAG (by decide)) (p_aS rfl (p_end (hK1 _ ?_)))));refine zAa rfl fun K2 hK2 => p_e rfl (e_lA (cs := Scaffold.enc (s)) (n := 2) rfl (h1_ w_)) (p_new rfl (zHA) trivial (p_e rfl (zCt (zs := [.nil, .nil, .sc (.map none)]) (pl := [(0, 2, true), (2, 1, false)]) (by kernel_rfl) (by kernel_rfl) (by kernel_rfl) rfl rfl (by exact ⟨by decide, rfl, nb_, rfl, ⟨by decide, rfl, nb_, rfl, trivial⟩⟩) rfl) (p_new rfl (zAR (cs := [.nil, .nil, .sc (.map none)]) (n := 3) (by kernel_rfl) rfl (by decide)) (zAG (by decide)) (zAQ rfl (zAB rfl w_ rfl rfl rfl (by kernel_rfl) rfl (by kernel_rfl)) trivial (p_end (hK2 _ ?_))))));refine zAf (zAm rfl fun K3 hK3 => zAM (g_e rfl (e_faQ pl2 rfl) (g_e rfl (e_lH (v := .lit _ _ _) rfl (h4_ w_) rfl) (g_e rfl (e_len rfl (by kernel_rfl)) (g_e rfl (e_gt rfl rfl) (g_mS rfl rfl ?_))))));refine zAw (fun hb4 => ?_) (fun hb4 => ?_)
 ·have hb4R := hb4; try simp only [zz] at hb4
  iterate 4 refine gk_ ?_
  refine g_pT rfl rfl rfl (g_end (ds := [21, 22, 23, 24]) rfl rfl (hK3 _ ?_));refine zAe (t := true) rfl fun K5 hK5 => ⟨fun _ => ?_, nofun⟩
  refine zAa rfl fun K6 hK6 => p_e rfl (e_lA (n := 3) rfl w_) (zAQ rfl (zAB rfl (h3_ w_) rfl rfl rfl (by kernel_rfl) rfl (by kernel_rfl)) trivial (p_aS rfl (p_end (hK6 _ ?_))));refine zAh (zAk (endCT rfl w_ (by kernel_rfl) (by kernel_rfl) (by kernel_rfl) rfl rfl ?_));exact zCM (zJr (by omega))
 have hb4R := hb4; try simp only [zz] at hb4
 refine g_e rfl (e_faQ pl2 rfl) (g_e rfl (e_lH (v := .lit _ _ _) rfl (h4_ w_) rfl) (g_e rfl (e_len rfl (by kernel_rfl)) (g_e rfl (e_gt rfl rfl) (g_pF rfl rfl rfl (g_end (ds := [21, 22, 23, 24]) rfl rfl (hK3 _ ?_))))));refine zAe rfl fun K7 hK7 => ⟨fun hb8 => ?_, fun hb8 => ?_⟩
 ·have hb8R := hb8; try simp only [zz] at hb8
  refine zAa rfl fun K9 hK9 => p_e rfl (e_lA (n := 3) rfl w_) (zAQ rfl (zAB rfl (h3_ w_) rfl rfl rfl (by kernel_rfl) rfl (by kernel_rfl)) trivial (p_aS rfl (p_end (hK9 _ ?_))));refine zAh (zAk (endCT rfl w_ (by kernel_rfl) (by kernel_rfl) (by kernel_rfl) rfl rfl ?_));exact zCM (zJr (by omega))
 have hb8R := hb8; try simp only [zz] at hb8
 refine zAl (zAb (hK7 _ ?_));refine zAf ?_;have hsz : ¬ (1000 < s.nodes.length ∨ 4000 < s.members.length) := by simp only [lM] at *; omega
 refine zAa rfl fun K10 hK10 => p_e rfl (e_faQ pl2 rfl) (p_e rfl (e_lH (v := .lit _ _ _) rfl (h4_ w_) rfl) (p_e rfl (e_len rfl (by kernel_rfl)) (p_mS rfl (p_end (hK10 _ ?_)))));refine zAg fun K11 hK11 => zAE (α := Nat × (List (Node × Int))) [1, 2, 4, 28, 29] (fun (a12 : Nat × (List (Node × Int))) => [(30, .int (a12.1))]) (fun (a12 : Nat × (List (Node × Int))) (h : Heap) (_ : Nat → Nat) => ((a12.1) ≤ s.nodes.length) ∧ (frsF (nodE s.nodes) 0 s.nodes = frsF (nodE s.nodes) (a12.1) (s.nodes.drop (a12.1))) ∧ (NdI s.nodes (a12.1) (a12.2)) ∧ (h (1, c0 1) = some (.rows 2 [Scaffold.enc s])) ∧ (h (2, c0 2) = some (.rows 3 [[.nil, .nil, .sc (.map none)]])) ∧ (h (4, c0 4) = some (.rows 3 [[.lit true 3 (s.nodes.map Node.enc), .lit true 3 (s.members.map Member.enc), .map (14, c0 14)]])) ∧ (MapAt h (14, c0 14) (zBb kn PV.int (a12.2)))) (fun (a12 : Nat × (List (Node × Int))) => s.nodes.length - (a12.1)) (0, []) (by exact ⟨rfl, trivial⟩) (by exact ⟨by exact Nat.zero_le _, by exact rfl, by exact NdI.nil, (h4_ w_), (h3_ w_), w_, (MapAt.keep MapAt.new (h2_ (rfl)))⟩) fun a12 r13 h14 c15 hj16 => ?_;obtain ⟨k, mp⟩ := a12;obtain ⟨hk, hinv, hnd, hihj16_0, hihj16_1, hihj16_2, hihj16_3⟩ := hj16;try dsimp only at hk
 try dsimp only at hinv
 try dsimp only at hnd
 try dsimp only at hihj16_0
 try dsimp only at hihj16_1
 try dsimp only at hihj16_2
 try dsimp only at hihj16_3
 show pwp _ _ (loopQ _ _ _) ⟨sets (mix _ _ _) [(30, .int k)], _, _⟩;refine zAa rfl fun K17 hK17 => p_e rfl (e_lt rfl rfl) (p_end (hK17 _ ?_));refine zAe rfl fun K18 hK18 => ⟨fun hb19 => ?_, fun hb19 => ?_⟩
 ·have hb19R := hb19; try simp only [zz] at hb19
  obtain ⟨n, hx, hd, ht⟩ := zBx (xs := s.nodes) (i := k) (by omega);refine zAl (zAb (hK18 _ ?_));refine zAg fun K20 hK20 => zAa rfl fun K21 hK21 => p_mS rfl (p_e rfl (e_ixL rfl rfl) (p_e rfl (e_lB (n := 3) rfl (by first | exact zBj hx rfl)) (p_new rfl (zAR (cs := [.int 0, .int 0, .int 0]) (n := 3) (by kernel_rfl) rfl (by decide)) (zAG (by decide)) (p_aS rfl (zAQ rfl (zAB rfl w_ rfl rfl rfl (by kernel_rfl) rfl (by kernel_rfl)) trivial ?_)))));refine p_end (hK21 _ ?_);refine zAf (zAa rfl fun K22 hK22 => p_e rfl (e_lA (cs := Node.enc (n)) (n := 3) rfl w_) (zBs rfl (.cons (zAx (Node.pure _)) .nil) (inSpaceC _) (p_e rfl (e_not rfl) (p_end (hK22 _ ?_)))));refine zAe rfl fun K23 hK23 => ⟨fun hb24 => ?_, fun hb24 => ?_⟩
  ·have hb24R := hb24; try simp only [zz] at hb24
   refine zAa rfl fun K25 hK25 => p_e rfl (e_lA (n := 3) rfl (h2_ hihj16_2)) (zAQ rfl (zAB rfl (h2_ hihj16_1) rfl rfl rfl (by kernel_rfl) rfl (by kernel_rfl)) trivial (p_aS rfl (p_end (hK25 _ ?_))));refine zAh (zAk (zAc (zAk (zAP (zAc (zAk (endCT rfl w_ (by kernel_rfl) (by kernel_rfl) (by kernel_rfl) rfl rfl ?_)))))));exact zCM (zHN hsz (zCs hinv hd (zKt (by assumption)) (by decide)) (by decide))
  have hb24R := hb24; try simp only [zz] at hb24
  refine zAl (zAb (hK23 _ ?_));refine zAf (zAa rfl fun K26 hK26 => p_e rfl (e_faQ [(0, 2, true), (2, 1, false)] rfl) (p_e rfl (e_lH (v := .map _) rfl (h2_ hihj16_2) rfl) (p_e rfl (e_lA (cs := Node.enc (n)) (n := 3) rfl w_) (p_e rfl (zH2 (kt := 65) (et := 3) (f := kn) (g := PV.int) (a := n) (l := mp) (z := 0) kn_eq kn_ok rfl rfl (MapAt.keep hihj16_3 (h2_ (rfl))) (by kernel_rfl) (by kernel_rfl) (by first | rfl | kernel_rfl)) (p_e rfl (zAi (v := .tup _) rfl) (p_e rfl (e_ext (v := .sc _) rfl (by simp) rfl) ?_))))));refine p_e rfl (e_ext (v := .sc _) rfl (by simp) rfl) (p_aS rfl (p_aS rfl (p_end (hK26 _ ?_))));refine zAf (zAa rfl fun K27 hK27 => p_mS rfl (p_end (hK27 _ ?_)));refine zAe rfl fun K28 hK28 => ⟨fun hb29 => ?_, fun hb29 => ?_⟩
  ·have hb29R := hb29; try simp only [zz] at hb29
   refine zAa rfl fun K30 hK30 => p_e rfl (e_lA (n := 3) rfl (h2_ hihj16_2)) (zAQ rfl (zAB rfl (h2_ hihj16_1) rfl rfl rfl (by kernel_rfl) rfl (by kernel_rfl)) trivial (p_aS rfl (p_end (hK30 _ ?_))));refine zAh (zAk (zAc (zAk (zAP (zAc (zAk (endCT rfl w_ (by kernel_rfl) (by kernel_rfl) (by kernel_rfl) rfl rfl ?_)))))));exact zCM (zHN hsz (zCs hinv hd (zL9 (by assumption) (of_decide_eq_true ((hnd n).symm.trans (by assumption)))) (by decide)) (by decide))
  have hb29R := hb29; try simp only [zz] at hb29
  refine zAl (zAb (hK28 _ ?_));refine zAn rfl fun K31 hK31 => p_e rfl (e_faQ [(0, 2, true), (2, 1, false)] rfl) (p_e rfl (e_lH (v := .map _) rfl (h2_ hihj16_2) rfl) (p_e rfl (e_lA (cs := Node.enc (n)) (n := 3) rfl w_) (p_mS rfl (zAQ rfl (zH1 (kt := 65) (et := 3) (f := kn) (g := PV.int) (a := n) (b := (k : Int)) (l := mp) kn_eq kn_ok rfl rfl rfl rfl (MapAt.keep hihj16_3 (h2_ (rfl))) (by kernel_rfl)) trivial (p_end (hK31 _ ?_))))));refine zAj (zAb (hK20 _ ?_));refine zAn rfl fun K32 hK32 => p_e rfl (e_adL rfl rfl) (p_mS rfl (p_end (hK32 _ ?_)));exact zAo ((k + 1, aSet n (k : Int) mp)) (by show _ < _; simp only; omega) ⟨rfl, rfl, rfl, rfl, rfl, trivial⟩ ⟨rfl, trivial⟩ (by exact ⟨by show _ + 1 ≤ _; simp only [lM] at *; omega, by exact zKz hinv hd (zMa (by assumption) (of_decide_eq_false ((hnd n).symm.trans (by assumption)))), by exact hnd.step ht, (h3_ hihj16_0), (h3_ hihj16_1), (h3_ hihj16_2), (MapAt.set kn_eq (MapAt.keep hihj16_3 (h2_ (rfl))) n (k : Int))⟩)
 have hb19R := hb19; try simp only [zz] at hb19
 have hN := zIN hinv (by simp only [lM] at *; omega);have hmp := hnd.all (by simp only [lM] at *; omega);refine zAJ (zAK ?_);clear hK18 K18;refine zAC (zAA (zAb (hK11 _ ?_)));refine zAa rfl fun K33 hK33 => p_e rfl (e_mkf rfl) (p_e rfl (zAs (v := .func _ _ _) rfl) (p_end (hK33 _ ?_)));refine zAa rfl fun K34 hK34 => p_new rfl (zHA) trivial (p_e rfl (zAs (v := .map _) rfl) (p_end (hK34 _ ?_)));refine zAf (zAa rfl fun K35 hK35 => p_e rfl (e_faQ pl2 rfl) (p_e rfl (e_lH (v := .lit _ _ _) rfl (h1_ hihj16_0) rfl) (p_e rfl (e_len rfl (by kernel_rfl)) (p_mS rfl (p_end (hK35 _ ?_))))));refine zAg fun K36 hK36 => zAE (α := Nat × (List (Member × Bool))) [2, 4, 9, 10, 56, 57] (fun (a37 : Nat × (List (Member × Bool))) => [(58, .int (a37.1))]) (fun (a37 : Nat × (List (Member × Bool))) (h : Heap) (_ : Nat → Nat) => ((a37.1) ≤ s.members.length) ∧ (frsF (memE s) 0 s.members = frsF (memE s) (a37.1) (s.members.drop (a37.1))) ∧ (MbI s.members (a37.1) (a37.2)) ∧ (h (2, c0 2) = some (.rows 3 [[.nil, .nil, .sc (.map none)]])) ∧ (h (4, c0 4) = some (.rows 3 [[.lit true 3 (s.nodes.map Node.enc), .lit true 3 (s.members.map Member.enc), .map (14, c0 14)]])) ∧ (h (1, c0 1) = some (.rows 2 [Scaffold.enc s])) ∧ (MapAt h (54, c15 54) (zBb kmb PV.bool (a37.2))) ∧ (MapAt h (14, c0 14) (zBb kn PV.int mp))) (fun (a37 : Nat × (List (Member × Bool))) => s.members.length - (a37.1)) (0, []) (by exact ⟨rfl, trivial⟩) (by exact ⟨by exact Nat.zero_le _, by exact rfl, by exact MbI.nil, (h1_ hihj16_1), (h1_ hihj16_2), (h1_ hihj16_0), MapAt.new, (MapAt.keep hihj16_3 (h1_ (rfl)))⟩) fun a37 r38 h39 c40 hj41 => ?_;obtain ⟨k, mm⟩ := a37;obtain ⟨hk, hinv2, hmb0, hihj41_0, hihj41_1, hihj41_2, hihj41_3, hihj41_4⟩ := hj41;try dsimp only at hk
 try dsimp only at hinv2
 try dsimp only at hmb0
 try dsimp only at hihj41_0
 try dsimp only at hihj41_1
 try dsimp only at hihj41_2
 try dsimp only at hihj41_3
 try dsimp only at hihj41_4
 show pwp _ _ (loopQ _ _ _) ⟨sets (mix _ _ _) [(58, .int k)], _, _⟩;refine zAa rfl fun K42 hK42 => p_e rfl (e_lt rfl rfl) (p_end (hK42 _ ?_));refine zAe rfl fun K43 hK43 => ⟨fun hb44 => ?_, fun hb44 => ?_⟩
 ·have hb44R := hb44; try simp only [zz] at hb44
  obtain ⟨m, hx, hd, ht⟩ := zBx (xs := s.members) (i := k) (by omega);refine zAl (zAb (hK43 _ ?_));refine zAg fun K45 hK45 => zAa rfl fun K46 hK46 => p_e rfl (e_ixL rfl rfl) (p_e rfl (e_lB (n := 3) rfl (by first | exact zBj hx rfl)) (p_new rfl (zAR (cs := [.int 0, .int 0, .int 0]) (n := 3) (by kernel_rfl) rfl (by decide)) (zAG (by decide)) (zAQ rfl (zAB rfl w_ rfl rfl rfl (by kernel_rfl) rfl (by kernel_rfl)) trivial (p_end (hK46 _ ?_)))));refine zAg fun K47 hK47 => zAa rfl fun K48 hK48 => p_e rfl (e_faQ pl3 rfl) (p_e rfl (e_lH (v := .sc _) rfl w_ rfl) (zBs rfl (.cons zAY (.cons zAY .nil)) (withinP _ _) (p_e rfl (e_not rfl) (p_aS rfl (p_end (hK48 _ ?_))))));refine zAt rfl (fun hb49 => ?_) (fun hb49 => ?_)
  ·have hb49R := hb49; try simp only [zz] at hb49
   refine zAa rfl fun K50 hK50 => p_e rfl (e_lA (n := 3) rfl (h2_ hihj41_1)) (zAQ rfl (zAB rfl (h2_ hihj41_0) rfl rfl rfl (by kernel_rfl) rfl (by kernel_rfl)) trivial (p_aS rfl (p_end (hK50 _ ?_))));refine zAh (zAc (zAk (zAc (zAk (zAP (zAc (zAk ?_)))))));refine endCT rfl w_ (by kernel_rfl) (by kernel_rfl) (by kernel_rfl) rfl rfl ?_;exact zCM (zEE hsz hN (zCs hinv2 hd (zLH (by assumption)) (by decide)))
  have hb49R := hb49; try simp only [zz] at hb49
  have hm1 : 0 ≤ m.kind ∧ m.kind ≤ 9 := (by assumption)
  refine zAm rfl fun K51 hK51 => zAM (g_e rfl (zAi (v := .func _ _ _) rfl) (g_e rfl (e_faQ pl3 rfl) (g_e rfl (e_lH (v := .sc _) rfl w_ rfl) (zBd rfl rfl rfl rfl (.cons zAY (.cons (.base (zJT (h2_ hihj41_2) (zJz (Scaffold.pure _)))) .nil)) (hasN s _ hs1) (g_e rfl (e_not rfl) (g_mS rfl rfl ?_))))));refine zAw (fun hb52 => ?_) (fun hb52 => ?_)
  ·have hb52R := hb52; try simp only [zz] at hb52
   iterate 5 refine gk_ ?_
   refine g_pT rfl rfl rfl (g_aS rfl rfl (g_end (ds := [75, 76, 77, 78, 79]) rfl rfl (hK51 _ ?_)));refine zAt (t := true) rfl (fun _ => ?_) nofun;refine zAa rfl fun K53 hK53 => p_e rfl (e_lA (n := 3) rfl (h2_ hihj41_1)) (zAQ rfl (zAB rfl (h2_ hihj41_0) rfl rfl rfl (by kernel_rfl) rfl (by kernel_rfl)) trivial (p_aS rfl (p_end (hK53 _ ?_))));refine zAh (zAc (zAk (zAc (zAk (zAP (zAc (zAk ?_)))))));refine endCT rfl w_ (by kernel_rfl) (by kernel_rfl) (by kernel_rfl) rfl rfl ?_;exact zCM (zEE hsz hN (zCs hinv2 hd (zJM hm1 (by omega)) (by decide)))
  have hb52R := hb52; try simp only [zz] at hb52
  refine g_e rfl (zAi (v := .func _ _ _) rfl) (g_e rfl (e_faQ pl3 rfl) (g_e rfl (e_lH (v := .sc _) rfl w_ rfl) (zBd rfl rfl rfl rfl (.cons zAY (.cons (.base (zJT (h2_ hihj41_2) (zJz (Scaffold.pure _)))) .nil)) (hasN s _ hs1) (g_e rfl (e_not rfl) (g_pF rfl rfl rfl (g_aS rfl rfl (g_end (ds := [75, 76, 77, 78, 79]) rfl rfl (hK51 _ ?_))))))));refine zAt rfl (fun hb54 => ?_) (fun hb54 => ?_)
  ·have hb54R := hb54; try simp only [zz] at hb54
   refine zAa rfl fun K55 hK55 => p_e rfl (e_lA (n := 3) rfl (h2_ hihj41_1)) (zAQ rfl (zAB rfl (h2_ hihj41_0) rfl rfl rfl (by kernel_rfl) rfl (by kernel_rfl)) trivial (p_aS rfl (p_end (hK55 _ ?_))));refine zAh (zAc (zAk (zAc (zAk (zAP (zAc (zAk ?_)))))));refine endCT rfl w_ (by kernel_rfl) (by kernel_rfl) (by kernel_rfl) rfl rfl ?_;exact zCM (zEE hsz hN (zCs hinv2 hd (zJM hm1 (by omega)) (by decide)))
  have hb54R := hb54; try simp only [zz] at hb54
  have hm2 : (0 ≤ m.a ∧ m.a < (s.nodes.length : Int)) ∧ (0 ≤ m.b ∧ m.b < (s.nodes.length : Int)) := ⟨(by assumption), (by assumption)⟩
  obtain ⟨a, ha, _, _⟩ := zBx (xs := s.nodes) (i := m.a.toNat) (by omega);obtain ⟨b, hb, _, _⟩ := zBx (xs := s.nodes) (i := m.b.toNat) (by omega);refine pwp_seq_plainK rfl fun hkn K56 hK56 => p_e rfl (e_lA (n := 3) (cs := [.lit true 3 (s.nodes.map Node.enc), .lit true 3 (s.members.map Member.enc), .map (14, c0 14)]) rfl (h2_ hihj41_1)) (p_e rfl (e_lA (n := 3) (cs := m.enc) rfl w_) (zBc rfl (rightH _ _ s m a b _ mp (MapAt.keep hihj41_4 (h2_ (rfl))) hmp hs1 hm2.1 hm2.2 ha hb hm1) fun v1 h1 c1 hR1 => ?_));obtain ⟨rfl, hfr⟩ := hR1;have ho57 := (hfr (2, _) (zGJ hkn (h2_ hihj41_0))).trans (h2_ hihj41_0);have ho58 := (hfr (4, _) (zGJ hkn (h2_ hihj41_1))).trans (h2_ hihj41_1);have ho59 := (hfr (1, _) (zGJ hkn (h2_ hihj41_2))).trans (h2_ hihj41_2);have ho60 := MapAt.keep (MapAt.keep hihj41_3 (h2_ (rfl))) (hfr (54, _) (zID hkn (MapAt.keep hihj41_3 (h2_ (rfl)))));have ho61 := MapAt.keep (MapAt.keep hihj41_4 (h2_ (rfl))) (hfr (14, _) (zID hkn (MapAt.keep hihj41_4 (h2_ (rfl)))));have ho62 := (hfr (12, _) (zGJ hkn w_)).trans w_;refine p_e rfl (e_not (b := geoB s.nodes m) rfl) (p_aS rfl (p_end (hK56 _ ?_)));refine zAt rfl (fun hb63 => ?_) (fun hb63 => ?_)
  ·have hb63R := hb63; try simp only [zz] at hb63
   refine zAa rfl fun K64 hK64 => p_e rfl (e_lA (n := 3) rfl ho58) (zAQ rfl (zAB rfl ho57 rfl rfl rfl (by kernel_rfl) rfl (by kernel_rfl)) trivial (p_aS rfl (p_end (hK64 _ ?_))));refine zAh (zAc (zAk (zAc (zAk (zAP (zAc (zAk ?_)))))));refine endCT rfl w_ (by kernel_rfl) (by kernel_rfl) (by kernel_rfl) rfl rfl ?_;exact zCM (zEE hsz hN (zCs hinv2 hd (zMg hm1 hm2 (by assumption)) (by decide)))
  have hb63R := hb63; try simp only [zz] at hb63
  refine zAa rfl fun K65 hK65 => p_e rfl (zAi (v := .map _) rfl) (p_e rfl (e_lA (cs := Member.enc (m)) (n := 3) rfl ho62) (p_e rfl (zGW (kt := 47) (et := 4) (f := kmb) (g := PV.bool) (a := m) (l := mm) (z := false) zLL zMj rfl rfl ho60 (by kernel_rfl) (by kernel_rfl) (by first | rfl | kernel_rfl)) (p_aS rfl (p_end (hK65 _ ?_)))));refine zAt rfl (fun hb66 => ?_) (fun hb66 => ?_)
  ·have hb66R := hb66; try simp only [zz] at hb66
   refine zAa rfl fun K67 hK67 => p_e rfl (e_lA (n := 3) rfl ho58) (zAQ rfl (zAB rfl ho57 rfl rfl rfl (by kernel_rfl) rfl (by kernel_rfl)) trivial (p_aS rfl (p_end (hK67 _ ?_))));refine zAh (zAc (zAk (zAc (zAk (zAP (zAc (zAk ?_)))))));refine endCT rfl w_ (by kernel_rfl) (by kernel_rfl) (by kernel_rfl) rfl rfl ?_;exact zCM (zEE hsz hN (zCs hinv2 hd (zMf hm1 hm2 (by assumption) (of_decide_eq_true ((hmb0 m).symm.trans (by assumption)))) (by decide)))
  have hb66R := hb66; try simp only [zz] at hb66
  refine zAl (zAj (zAb (hK47 _ ?_)));refine zAn rfl fun K68 hK68 => p_e rfl (zAi (v := .map _) rfl) (p_e rfl (e_lA (cs := Member.enc (m)) (n := 3) rfl ho62) (zAQ rfl (zH1 (kt := 47) (et := 4) (f := kmb) (g := PV.bool) (a := m) (b := true) (l := mm) zLL zMj rfl rfl rfl rfl ho60 (by kernel_rfl)) trivial (p_end (hK68 _ ?_))));refine zAj (zAb (hK45 _ ?_));refine zAn rfl fun K69 hK69 => p_e rfl (e_adL rfl rfl) (p_mS rfl (p_end (hK69 _ ?_)));exact zAo ((k + 1, aSet m true mm)) (by show _ < _; simp only; omega) ⟨rfl, rfl, rfl, rfl, rfl, rfl, trivial⟩ ⟨rfl, trivial⟩ (by exact ⟨by show _ + 1 ≤ _; simp only [lM] at *; omega, by exact zKz hinv2 hd (zMh hm1 hm2 (by assumption) (of_decide_eq_false ((hmb0 m).symm.trans (by assumption)))), by exact hmb0.step ht, (h1_ ho57), (h1_ ho58), (h1_ ho59), (MapAt.set zLL ho60 m true), (MapAt.keep ho61 (h1_ (rfl)))⟩)
 have hb44R := hb44; try simp only [zz] at hb44
 have hM := zIN hinv2 (by simp only [lM] at *; omega);refine zAJ (zAK ?_);clear hK43 K43;refine zAC (zAA (zAb (hK36 _ ?_)));refine zAa rfl fun K70 hK70 => p_e rfl (e_lA (n := 3) rfl hihj41_1) (zAQ rfl (zAB rfl hihj41_0 rfl rfl rfl (by kernel_rfl) rfl (by kernel_rfl)) trivial (p_aS rfl (p_end (hK70 _ ?_))));refine zAh (endCT rfl w_ (by kernel_rfl) (by kernel_rfl) (by kernel_rfl) rfl rfl ?_);exact zCM (zEE hsz hN hM.symm)
theorem CheckScf (s : Scaffold) (hs1 : s.nodes.length ≤ 1000000) (hs2 : s.members.length ≤ 1000000) : PCalls Tryz.prog 40 [.agg s.enc] (.int (scfE s)) := by
 refine pco Tryz.func40 rfl rfl (.sc _) (zAa rfl fun K1 hK1 => p_new rfl (e_box (n := 2) rfl rfl) ⟨rfl, by decide⟩ (p_aS rfl (p_end (hK1 _ ?_))));refine zAa rfl fun K2 hK2 => p_e rfl (e_lA (cs := Scaffold.enc (s)) (n := 2) rfl w_) (zBc rfl (readH _ _ s hs1 hs2) fun v7 h7 c7 hR7 => ?_);obtain ⟨q7, rfl⟩ := hR7;refine p_e rfl (zAi (v := .tup _) rfl) (p_e rfl (e_ext (v := .agg _) rfl (by simp) rfl) (p_e rfl (e_ext (v := .sc _) rfl (by simp) rfl) (p_new rfl (zAR (cs := [.nil, .nil, .sc (.map none)]) (n := 3) (by kernel_rfl) rfl (by decide)) (zAG (by decide)) (zAQ rfl (zAB rfl w_ rfl rfl rfl (by kernel_rfl) rfl (by kernel_rfl)) trivial (p_aS rfl (p_end (hK2 _ ?_)))))));refine zAa rfl fun K3 hK3 => p_mS rfl (p_aS rfl (p_end (hK3 _ ?_)));refine zAh (end1 (v := .sc _) rfl ?_);exact out_i rfl
def smlB (s : Scaffold) : Bool := decide (s.nodes.length ≤ 30 ∧ s.members.length ≤ 40)
theorem zKR {s : Scaffold} : smlB s = true ↔ s.nodes.length ≤ 30 ∧ s.members.length ≤ 40 := by rw [smlB, decide_eq_true_eq]
theorem zKm (s : Scaffold) (hs1 : s.nodes.length ≤ 9223372036854775807) (hs2 : s.members.length ≤ 9223372036854775807) : PCalls Tryz.prog 6 [.agg s.enc] (.bool (smlB s)) := by
 refine pco Tryz.func6 rfl rfl (.sc _) (zAa rfl fun K1 hK1 => p_new rfl (e_box (n := 2) rfl rfl) ⟨rfl, by decide⟩ (p_aS rfl (p_end (hK1 _ ?_))));refine zAm rfl fun K2 hK2 => zAM (g_e rfl (e_faQ pl2 rfl) (g_e rfl (e_lH (v := .lit _ _ _) rfl w_ rfl) (g_e rfl (e_len rfl (by kernel_rfl)) (g_e rfl (e_le rfl rfl) (g_mS rfl rfl ?_)))));refine zAw (fun hb3 => ?_) (fun hb3 => ?_)
 ·have hb3R := hb3; try simp only [zz] at hb3
  refine g_e rfl (e_faQ pl2 rfl) (g_e rfl (e_lH (v := .lit _ _ _) rfl w_ rfl) (g_e rfl (e_len rfl (by kernel_rfl)) (g_e rfl (e_le rfl rfl) (g_pT rfl rfl rfl (g_aS rfl rfl (g_end (ds := [8, 9, 10, 11]) rfl rfl (hK2 _ ?_)))))));refine zAh (end1 (v := .sc _) rfl ?_);exact out_b (by first | (rw [smlB]; exact (decide_eq_false (by simp only [lM] at *; omega)).symm) | (rw [smlB, Bool.eq_iff_iff]; simp only [decide_eq_true_eq, lM] at *; omega))
 ·have hb3R := hb3; try simp only [zz] at hb3
  iterate 4 refine gk_ ?_
  refine g_pF rfl rfl rfl (g_aS rfl rfl (g_end (ds := [8, 9, 10, 11]) rfl rfl (hK2 _ ?_)));refine zAh (end1 (v := .sc _) rfl ?_);exact out_b (by first | (rw [smlB]; exact (decide_eq_false (by simp only [lM] at *; omega)).symm) | (rw [smlB, Bool.eq_iff_iff]; simp only [decide_eq_true_eq, lM] at *; omega))
end Go.Proofs.YtnbcmoaofmkjhaaGreatDoor.E7
