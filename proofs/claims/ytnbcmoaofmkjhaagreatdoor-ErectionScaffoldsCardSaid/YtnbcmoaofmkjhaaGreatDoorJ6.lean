import Derived.Test.YtnbcmoaofmkjhaaGreatDoorJ5
set_option linter.unusedSimpArgs false
set_option linter.unusedVariables false
set_option maxRecDepth 100000
namespace Go.Proofs.YtnbcmoaofmkjhaaGreatDoor.E7
open Go Go.Pv Go.Proofs.YtnbcmoaofmkjhaaGreatDoor
def frsF {α : Type} (E : Nat → α → Int) : Nat → List α → Int
 | _, [] => 0
 | k, x :: l => if E k x ≠ 0 then E k x else frsF E (k + 1) l
section
variable {α : Type} {E : Nat → α → Int} {R : Int} {xs : List α} {k : Nat} {x : α}
theorem zKz (h : R = frsF E k (xs.drop k)) (hd : xs.drop k = x :: xs.drop (k + 1)) (h0 : E k x = 0) : R = frsF E (k + 1) (xs.drop (k + 1)) := by
 rw [h, hd, frsF, if_neg (fun q => q h0)]
theorem zCs (h : R = frsF E k (xs.drop k)) (hd : xs.drop k = x :: xs.drop (k + 1)) {e : Int} (h0 : E k x = e) (h1 : e ≠ 0) : e = R := by
 rw [h, hd, frsF, if_pos (by rw [h0]; exact h1), h0]
theorem zIN (h : R = frsF E k (xs.drop k)) (hk : xs.length ≤ k) : R = 0 := by rw [h, List.drop_eq_nil_of_le hk, frsF]
theorem zIO : ∀ (l : List α) (k : Nat), frsF E k l = 0 → ∀ i y, l[i]? = some y → E (k + i) y = 0
 | [], _, _, _, _, hy => by simp at hy
 | x :: l, k, h, i, y, hy => by
   rw [frsF] at h;by_cases h1 : E k x = 0
   · rw [if_neg (fun q => q h1)] at h
     match i, hy with
     | 0, hy => simp at hy; subst hy; exact h1
     | i + 1, hy =>
       have := zIO l (k + 1) h i y (by simpa using hy);rw [show k + (i + 1) = k + 1 + i by omega]; exact this
   · rw [if_pos h1] at h; exact absurd h h1
end
def cordB (z : Int) : Bool := decide (-1000000 ≤ z ∧ z ≤ 1000000)
def spcB (n : Node) : Bool := cordB n.px && (cordB n.py && cordB n.pz)
def ndK (n m : Node) : Bool := decide (m = n)
def mbK (m x : Member) : Bool := decide (x = m)
def nodE (ns : List Node) (k : Nat) (n : Node) : Int := if spcB n = false then 2 else if n ∈ ns.take k then 5 else 0
def geo2 (ns : List Node) (a b : Node) (m : Member) : Bool :=
 if m.kind = 0 ∨ m.kind = 7 then decide (a.px = b.px ∧ a.py = b.py ∧ a.pz < b.pz)
 else if m.kind = 3 then decide (a.pz < b.pz ∧ ¬ (a.px = b.px ∧ a.py = b.py))
 else if m.kind = 6 then decide (a.pz = b.pz ∧ a.px < b.px ∧ a.py < b.py ∧ 0 ≤ ixA (ndK ⟨b.px, a.py, a.pz⟩) ns ∧ 0 ≤ ixA (ndK ⟨a.px, b.py, a.pz⟩) ns)
 else if m.kind = 8 ∨ m.kind = 9 then decide (m.a = m.b)
 else decide (a.pz = b.pz ∧ (a.px < b.px ∧ a.py = b.py ∨ a.px = b.px ∧ a.py < b.py))
def geoB (ns : List Node) (m : Member) : Bool := geo2 ns (ns.getD m.a.toNat default) (ns.getD m.b.toNat default) m
def memE (s : Scaffold) (k : Nat) (m : Member) : Int :=
 if ¬ (0 ≤ m.kind ∧ m.kind ≤ 9) then 2
 else if ¬ ((0 ≤ m.a ∧ m.a < (s.nodes.length : Int)) ∧ (0 ≤ m.b ∧ m.b < (s.nodes.length : Int))) then 6
 else if geoB s.nodes m = false then 3
 else if m ∈ s.members.take k then 5 else 0
def scfE (s : Scaffold) : Int :=
 if 1000 < s.nodes.length ∨ 4000 < s.members.length then 8
 else if frsF (nodE s.nodes) 0 s.nodes ≠ 0 then frsF (nodE s.nodes) 0 s.nodes else frsF (memE s) 0 s.members
section
variable {s : Scaffold} {ns : List Node} {n : Node} {m x : Member} {k : Nat}
theorem spc_1 (h : cordB n.px = false) : spcB n = false := by rw [spcB, h]; rfl
theorem spc_2 (h : cordB n.py = false) : spcB n = false := by rw [spcB, h]; simp
theorem spc_3 (h : cordB n.pz = false) : spcB n = false := by rw [spcB, h]; simp
theorem spc_t (h1 : cordB n.px = true) (h2 : cordB n.py = true) (h3 : cordB n.pz = true) : spcB n = true := by rw [spcB, h1, h2, h3]; rfl
theorem spc_b (h : spcB n = true) : (-1000000 ≤ n.px ∧ n.px ≤ 1000000) ∧ (-1000000 ≤ n.py ∧ n.py ≤ 1000000) ∧ (-1000000 ≤ n.pz ∧ n.pz ≤ 1000000) := by
 simpa [spcB, cordB] using h
theorem zKt (h : spcB n = false) : nodE ns k n = 2 := if_pos h
theorem zL9 (h : spcB n = true) (h2 : n ∈ ns.take k) : nodE ns k n = 5 := by
 rw [nodE, if_neg (by rw [h]; decide), if_pos h2]
theorem zMa (h : spcB n = true) (h2 : n ∉ ns.take k) : nodE ns k n = 0 := by
 rw [nodE, if_neg (by rw [h]; decide), if_neg h2]
theorem ixK_take {α : Type} [DecidableEq α] {l : List α} {a : α} {k : Nat} (hx : l[k]? = some a) : ixA (fun y => decide (y = a)) l ≠ (k : Int) ↔ a ∈ l.take k := by
 have hk := (List.getElem?_eq_some_iff.1 hx).1;constructor
 · intro h;refine Classical.byContradiction fun h2 => h ((zHv (K := fun y => decide (y = a)) hx (fun i hi y hy => decide_eq_false fun e => h2 ?_) (decide_eq_true rfl)).symm);subst e;exact List.mem_of_getElem? (i := i) (by rw [List.getElem?_take, if_pos hi]; exact hy)
 · intro h e;obtain ⟨i, hi⟩ := List.getElem?_of_mem h;rw [List.getElem?_take] at hi;split at hi
   · rename_i h3;unfold ixA at e;cases q : l.findIdx? (fun y => decide (y = a)) with
     | none => rw [q] at e; exact absurd (show (-1 : Int) = (k : Int) from e) (by omega)
     | some j =>
       rw [q] at e;simp only [Int.ofNat_inj] at e;subst e;rw [List.findIdx?_eq_some_iff_getElem] at q;have := q.2.2 i h3;obtain ⟨g1, g2⟩ := List.getElem?_eq_some_iff.1 hi;rw [g2] at this;simp at this
   · cases hi
theorem zJJ (hx : ns[k]? = some n) : ixA (ndK n) ns ≠ (k : Int) ↔ n ∈ ns.take k := ixK_take hx
theorem ndK_mem : 0 ≤ ixA (ndK n) ns ↔ n ∈ ns := by
 have h := ixA_any (K := ndK n) (l := ns);rw [Bool.eq_iff_iff, decide_eq_true_eq, List.any_eq_true] at h;rw [h];constructor
 · rintro ⟨y, hy, e⟩
   have : y = n := of_decide_eq_true e;exact this ▸ hy
 · intro h2; exact ⟨n, h2, decide_eq_true rfl⟩
theorem zDU {a b : Node} (ha : ns[m.a.toNat]? = some a) (hb : ns[m.b.toNat]? = some b) : geoB ns m = geo2 ns a b m := by
 rw [geoB, List.getD_eq_getElem?_getD, List.getD_eq_getElem?_getD, ha, hb]; rfl
theorem geo_07 {a b : Node} (h : m.kind = 0 ∨ m.kind = 7) : geo2 ns a b m = decide (a.px = b.px ∧ a.py = b.py ∧ a.pz < b.pz) := if_pos h
theorem geo_3 {a b : Node} (h : m.kind = 3) : geo2 ns a b m = decide (a.pz < b.pz ∧ ¬ (a.px = b.px ∧ a.py = b.py)) := by
 rw [geo2, if_neg (by omega), if_pos h]
theorem geo_6 {a b : Node} (h : m.kind = 6) : geo2 ns a b m = decide (a.pz = b.pz ∧ a.px < b.px ∧ a.py < b.py ∧ 0 ≤ ixA (ndK ⟨b.px, a.py, a.pz⟩) ns ∧ 0 ≤ ixA (ndK ⟨a.px, b.py, a.pz⟩) ns) := by
 rw [geo2, if_neg (by omega), if_neg (by omega), if_pos h]
theorem geo_89 {a b : Node} (h : m.kind = 8 ∨ m.kind = 9) : geo2 ns a b m = decide (m.a = m.b) := by
 rw [geo2, if_neg (by omega), if_neg (by omega), if_neg (by omega), if_pos h]
theorem geo_x {a b : Node} (h : ¬ (m.kind = 0 ∨ m.kind = 7) ∧ m.kind ≠ 3 ∧ m.kind ≠ 6 ∧ ¬ (m.kind = 8 ∨ m.kind = 9)) : geo2 ns a b m = decide (a.pz = b.pz ∧ (a.px < b.px ∧ a.py = b.py ∨ a.px = b.px ∧ a.py < b.py)) := by
 rw [geo2, if_neg (by omega), if_neg (by omega), if_neg (by omega), if_neg (by omega)]
theorem zLH (h : ¬ (0 ≤ m.kind ∧ m.kind ≤ 9)) : memE s k m = 2 := if_pos h
theorem zJM (h : 0 ≤ m.kind ∧ m.kind ≤ 9) (h2 : ¬ ((0 ≤ m.a ∧ m.a < (s.nodes.length : Int)) ∧ (0 ≤ m.b ∧ m.b < (s.nodes.length : Int)))) : memE s k m = 6 := by
 rw [memE, if_neg (fun q => q h), if_pos h2]
theorem zMg (h : 0 ≤ m.kind ∧ m.kind ≤ 9) (h2 : (0 ≤ m.a ∧ m.a < (s.nodes.length : Int)) ∧ (0 ≤ m.b ∧ m.b < (s.nodes.length : Int))) (h3 : geoB s.nodes m = false) : memE s k m = 3 := by
 rw [memE, if_neg (fun q => q h), if_neg (fun q => q h2), if_pos h3]
theorem zMf (h : 0 ≤ m.kind ∧ m.kind ≤ 9) (h2 : (0 ≤ m.a ∧ m.a < (s.nodes.length : Int)) ∧ (0 ≤ m.b ∧ m.b < (s.nodes.length : Int))) (h3 : geoB s.nodes m = true) (h4 : m ∈ s.members.take k) : memE s k m = 5 := by
 rw [memE, if_neg (fun q => q h), if_neg (fun q => q h2), if_neg (by rw [h3]; decide), if_pos h4]
theorem zMh (h : 0 ≤ m.kind ∧ m.kind ≤ 9) (h2 : (0 ≤ m.a ∧ m.a < (s.nodes.length : Int)) ∧ (0 ≤ m.b ∧ m.b < (s.nodes.length : Int))) (h3 : geoB s.nodes m = true) (h4 : m ∉ s.members.take k) : memE s k m = 0 := by
 rw [memE, if_neg (fun q => q h), if_neg (fun q => q h2), if_neg (by rw [h3]; decide), if_neg h4]
theorem mb_in {j : Nat} (hy : s.members[j]? = some x) (hj : j < k) (h : x = m) : m ∈ s.members.take k := by
 subst h;exact List.mem_of_getElem? (i := j) (by rw [List.getElem?_take, if_pos hj]; exact hy)
theorem mb_nin {j : Nat} (h : ∀ i, i < j → ∀ y, s.members[i]? = some y → mbK m y = false) (hj : k ≤ j) : m ∉ s.members.take k := fun h2 => by
 obtain ⟨i, hi⟩ := List.getElem?_of_mem h2;rw [List.getElem?_take] at hi;split at hi
 · have := h i (by omega) m hi;simp [mbK] at this
 · cases hi
theorem zJr (h : 1000 < s.nodes.length ∨ 4000 < s.members.length) : 8 = scfE s := (if_pos h).symm
theorem zHN {e : Int} (h : ¬ (1000 < s.nodes.length ∨ 4000 < s.members.length)) (h2 : e = frsF (nodE s.nodes) 0 s.nodes) (h3 : e ≠ 0) : e = scfE s := by
 rw [scfE, if_neg h, if_pos (by rw [← h2]; exact h3), h2]
theorem zEE {e : Int} (h : ¬ (1000 < s.nodes.length ∨ 4000 < s.members.length)) (h2 : frsF (nodE s.nodes) 0 s.nodes = 0) (h3 : e = frsF (memE s) 0 s.members) : e = scfE s := by
 rw [scfE, if_neg h, if_neg (fun q => q h2), h3]
end
theorem zAI (a b : Node) : eqOk Tryz.prog 6 65 (.agg a.enc) (.agg b.enc) = true := by kernel_rfl
theorem zAO (a b : Node) : eqV Tryz.prog 6 65 (.agg a.enc) (.agg b.enc) = decide (a = b) := by
 have h : eqV Tryz.prog 6 65 (.agg a.enc) (.agg b.enc) = ((a.px == b.px) && ((a.py == b.py) && ((a.pz == b.pz) && true))) := by kernel_rfl
 rw [h];cases a; cases b;simp only [Node.mk.injEq];rw [Bool.eq_iff_iff];simp
theorem eqOk_Member (a b : Member) : eqOk Tryz.prog 6 47 (.agg a.enc) (.agg b.enc) = true := by kernel_rfl
theorem eqV_Member (a b : Member) : eqV Tryz.prog 6 47 (.agg a.enc) (.agg b.enc) = decide (a = b) := by
 have h : eqV Tryz.prog 6 47 (.agg a.enc) (.agg b.enc) = ((a.kind == b.kind) && ((a.a == b.a) && ((a.b == b.b) && true))) := by kernel_rfl
 rw [h];cases a; cases b;simp only [Member.mk.injEq];rw [Bool.eq_iff_iff];simp
theorem zLU (z : Int) : PCalls Tryz.prog 27 [.int z] (.bool (cordB z)) := by
 refine pco Tryz.func27 rfl rfl (.sc _) (zAa rfl fun K1 hK1 => p_aS rfl (p_end (hK1 _ ?_)));refine zAa rfl fun K2 hK2 => p_mS rfl (zBs rfl (.cons zAY (.cons zAY (.cons zAY .nil))) (zKl _ _ _) (p_aS rfl (p_end (hK2 _ ?_))));refine zAh (end1 (v := .sc _) rfl ?_);exact out_b rfl
theorem zKn (s : Scaffold) (n : Node) (hlen : s.nodes.length ≤ 1000000) : PCalls Tryz.prog 28 [.agg s.enc, .agg n.enc] (.int (ixA (ndK n) s.nodes)) := by
 refine pco Tryz.func28 rfl rfl (.sc _) (zAa rfl fun K1 hK1 => p_new rfl (e_box (n := 2) rfl rfl) ⟨rfl, by decide⟩ (p_new rfl (e_box (n := 3) rfl rfl) ⟨rfl, by decide⟩ (p_aS rfl (p_end (hK1 _ ?_)))));refine zAf (zAa rfl fun K2 hK2 => p_aS rfl (p_end (hK2 _ ?_)));refine zAg fun K3 hK3 => zAE (α := Nat) [2, 3] (fun (k : Nat) => [(5, .int (k))]) (fun (k : Nat) (h : Heap) (_ : Nat → Nat) => ((k) ≤ s.nodes.length) ∧ (∀ i, i < (k) → ∀ y, s.nodes[i]? = some y → ndK n y = false) ∧ (h (2, 0) = some (.rows 2 [Scaffold.enc s])) ∧ (h (3, 0) = some (.rows 3 [Node.enc n]))) (fun (k : Nat) => s.nodes.length - (k)) (0) (by exact ⟨rfl, trivial⟩) (by exact ⟨by exact Nat.zero_le _, by exact nx_0, (h1_ w_), w_⟩) fun k r4 h5 c6 hj7 => ?_;obtain ⟨hk, hin, hihj7_0, hihj7_1⟩ := hj7;try dsimp only at hk
 try dsimp only at hin
 try dsimp only at hihj7_0
 try dsimp only at hihj7_1
 show pwp _ _ (loopQ _ _ _) ⟨sets (mix _ _ _) [(5, .int k)], _, _⟩;refine zAf (zAa rfl fun K8 hK8 => p_mS rfl (p_e rfl (e_faQ pl2 rfl) (p_e rfl (e_lH (v := .lit _ _ _) rfl hihj7_0 rfl) (p_e rfl (e_len rfl (by kernel_rfl)) (p_e rfl (e_lt rfl rfl) (p_end (hK8 _ ?_)))))));refine zAe rfl fun K9 hK9 => ⟨fun hb10 => ?_, fun hb10 => ?_⟩
 ·have hb10R := hb10; try simp only [zz] at hb10
  obtain ⟨x, hx, hd, ht⟩ := zBx (xs := s.nodes) (i := k) (by omega);refine zAl (zAb (hK9 _ ?_));refine zAg fun K11 hK11 => zAm rfl fun K12 hK12 => zAM (g_e rfl (e_faQ pl2 rfl) (g_e rfl (e_lH (v := .lit _ _ _) rfl hihj7_0 rfl) (g_mS rfl rfl (g_e rfl (e_ixL rfl rfl) (g_e rfl (e_lB (n := 3) rfl (by first | exact zBj hx rfl)) ?_)))));refine g_e rfl (e_lA (cs := Node.enc (n)) (n := 3) rfl hihj7_1) (g_e rfl (e_aeq rfl rfl (by kernel_rfl) (zAI (x) (n)) (zAO (x) (n))) (g_end (ds := []) (by kernel_rfl) rfl (hK12 _ ?_)));refine zAt rfl (fun hb13 => ?_) (fun hb13 => ?_)
  ·have hb13T := hb13; try simp only [zz] at hb13
   refine zAa rfl fun K14 hK14 => p_mS rfl (p_aS rfl (p_end (hK14 _ ?_)));refine zAh (zAc (zAk (zAP (zAc (zAk (end1 (v := .sc _) rfl ?_))))));exact out_i (zHv (K := ndK n) hx hin (decide_eq_true (by assumption)))
  have hb13F := hb13; try simp only [zz] at hb13
  refine zAl (zAj (zAb (hK11 _ ?_)));refine zAn rfl fun K15 hK15 => p_mS rfl (p_e rfl (e_adL rfl rfl) (p_aS rfl (p_end (hK15 _ ?_))));exact zAo (k + 1) (by show _ < _; omega) ⟨rfl, rfl, trivial⟩ ⟨rfl, trivial⟩ (by exact ⟨by show _ + 1 ≤ _; simp only [lM] at *; omega, by exact zEo (K := ndK n) hin hx (decide_eq_false (by assumption)), hihj7_0, hihj7_1⟩)
 have hb10R := hb10; try simp only [zz] at hb10
 refine zAJ (zAK ?_);clear hK9 K9;refine zAC (zAA (zAb (hK3 _ ?_)));refine zAa rfl fun K16 hK16 => p_aS rfl (p_end (hK16 _ ?_));refine zAh (end1 (v := .sc _) rfl ?_);exact out_i (zLM (K := ndK n) hin (by simp only [lM] at *; omega))
theorem CornersC (s : Scaffold) (m : Member) (a b : Node) (hlen : s.nodes.length ≤ 1000000) (hma : 0 ≤ m.a ∧ m.a < (s.nodes.length : Int)) (hmb : 0 ≤ m.b ∧ m.b < (s.nodes.length : Int)) (ha : s.nodes[m.a.toNat]? = some a) (hb : s.nodes[m.b.toNat]? = some b) : PCalls Tryz.prog 65 [.agg s.enc, .agg m.enc] (.agg [.int m.a, .int (ixA (ndK (⟨b.px, a.py, a.pz⟩ : Node)) s.nodes), .int m.b, .int (ixA (ndK (⟨a.px, b.py, a.pz⟩ : Node)) s.nodes)]) := by
 refine pco Tryz.func65 rfl rfl (.agg _ fun p hp => by simp only [List.mem_cons, List.not_mem_nil, or_false] at hp; rcases hp with rfl | rfl | rfl | rfl <;> exact .sc _) (zAa rfl fun K1 hK1 => p_new rfl (e_box (n := 2) rfl rfl) ⟨rfl, by decide⟩ (p_new rfl (e_box (n := 3) rfl rfl) ⟨rfl, by decide⟩ (p_new rfl (zAR (cs := [.int 0, .int 0, .int 0, .int 0]) (n := 4) (by kernel_rfl) rfl (by decide)) (zAG (by decide)) (p_end (hK1 _ ?_)))));refine zAm rfl fun K2 hK2 => zA0 (s_e rfl (e_faQ pl2 rfl) (zAz [2] (by simp) rfl rfl rfl rfl (e_lH (v := .lit _ _ _) rfl (h2_ w_) rfl) trivial (s_e rfl (e_faQ pl3 rfl) (zAz [3] (by simp) rfl rfl rfl rfl (e_lH (v := .sc _) rfl (h1_ w_) rfl) trivial (s_e rfl (e_ixL rfl rfl) (s_e rfl (e_lB (n := 3) rfl (by first | exact zBj ha rfl)) ?_))))));refine s_e rfl (e_faQ pl2 rfl) (zAz [2] (by simp) rfl rfl rfl rfl (e_lH (v := .lit _ _ _) rfl (h2_ w_) rfl) trivial (s_e rfl (e_faQ pl3 rfl) (zAz [3] (by simp) rfl rfl rfl rfl (e_lH (v := .sc _) rfl (h1_ w_) rfl) trivial (s_e rfl (e_ixL rfl rfl) (s_e rfl (e_lB (n := 3) rfl (by first | exact zBj hb rfl)) (s_new [] (by simp) rfl rfl rfl rfl (zAR (cs := [.int 0, .int 0, .int 0]) (n := 3) (by kernel_rfl) rfl (by decide)) (zAG (by decide)) (s_new [] (by simp) rfl rfl rfl rfl (zAR (cs := [.int 0, .int 0, .int 0]) (n := 3) (by kernel_rfl) rfl (by decide)) (zAG (by decide)) ?_)))))));refine zA4 [5] (by simp) rfl rfl (zAB rfl (h1_ w_) rfl rfl rfl (by kernel_rfl) rfl (by kernel_rfl)) trivial (zA4 [6] (by simp) rfl rfl (zAB rfl (h1_ w_) rfl rfl rfl (by kernel_rfl) rfl (by kernel_rfl)) trivial (s_end (ds := []) (by kernel_rfl) (by kernel_rfl) (hK2 _ ?_)));refine zAm rfl fun K3 hK3 => zA0 (s_e rfl (e_faQ pl3 rfl) (zAz [3] (by simp) rfl rfl rfl rfl (e_lH (v := .sc _) rfl (h1_ (h4_ w_)) rfl) trivial (zAz [2] (by simp) rfl rfl rfl rfl (e_lA (cs := Scaffold.enc (s)) (n := 2) rfl (h2_ (h4_ w_))) trivial (s_e rfl (e_faQ pl3 rfl) (zAz [6] (by simp) rfl rfl rfl rfl (e_lH (v := .sc _) rfl w_ rfl) trivial (s_e rfl (e_faQ pl3 rfl) ?_))))));refine zAz [5] (by simp) rfl rfl rfl rfl (e_lH (v := .sc _) rfl (h1_ w_) rfl) trivial (s_e rfl (e_faQ pl3 rfl) (zAz [5] (by simp) rfl rfl rfl rfl (e_lH (v := .sc _) rfl (h1_ w_) rfl) trivial (s_e rfl (zCt (cs := Node.enc (⟨b.px, a.py, a.pz⟩ : Node)) (zs := [.int 0, .int 0, .int 0]) (pl := [(0, 1, false), (1, 1, false), (2, 1, false)]) (by kernel_rfl) (by kernel_rfl) (by kernel_rfl) rfl rfl (by exact ⟨by decide, rfl, nb_, rfl, ⟨by decide, rfl, nb_, rfl, ⟨by decide, rfl, nb_, rfl, trivial⟩⟩⟩) rfl) (zDS (args := [.agg _, .agg _]) [] (by intro k hk; simp [zBF, Go.Pv.keyOf, Node.enc, Scaffold.enc] at hk; try (first | (subst hk; simp; done) | (rcases hk with rfl | rfl <;> simp; done))) rfl rfl rfl rfl (.cons (zAx (Scaffold.pure _)) (.cons (zAx (Node.pure _)) .nil)) (zKn _ _ (by omega)) (s_e rfl (e_faQ pl3 rfl) (zAz [3] (by simp) rfl rfl rfl rfl (e_lH (v := .sc _) rfl (h1_ (h4_ w_)) rfl) trivial (zAz [2] (by simp) rfl rfl rfl rfl (e_lA (cs := Scaffold.enc (s)) (n := 2) rfl (h2_ (h4_ w_))) trivial ?_)))))));refine s_e rfl (e_faQ pl3 rfl) (zAz [5] (by simp) rfl rfl rfl rfl (e_lH (v := .sc _) rfl (h1_ w_) rfl) trivial (s_e rfl (e_faQ pl3 rfl) (zAz [6] (by simp) rfl rfl rfl rfl (e_lH (v := .sc _) rfl w_ rfl) trivial (s_e rfl (e_faQ pl3 rfl) (zAz [5] (by simp) rfl rfl rfl rfl (e_lH (v := .sc _) rfl (h1_ w_) rfl) trivial (s_e rfl (zCt (cs := Node.enc (⟨a.px, b.py, a.pz⟩ : Node)) (zs := [.int 0, .int 0, .int 0]) (pl := [(0, 1, false), (1, 1, false), (2, 1, false)]) (by kernel_rfl) (by kernel_rfl) (by kernel_rfl) rfl rfl (by exact ⟨by decide, rfl, nb_, rfl, ⟨by decide, rfl, nb_, rfl, ⟨by decide, rfl, nb_, rfl, trivial⟩⟩⟩) rfl) (zDS (args := [.agg _, .agg _]) [] (by intro k hk; simp [zBF, Go.Pv.keyOf, Node.enc, Scaffold.enc] at hk; try (first | (subst hk; simp; done) | (rcases hk with rfl | rfl <;> simp; done))) rfl rfl rfl rfl (.cons (zAx (Scaffold.pure _)) (.cons (zAx (Node.pure _)) .nil)) (zKn _ _ (by omega)) ?_)))))));refine s_e rfl (zES (zs := [.int 0, .int 0, .int 0, .int 0]) (pl := [(0, 1, false), (1, 1, false), (2, 1, false), (3, 1, false)]) (by kernel_rfl) (by kernel_rfl) (by kernel_rfl) rfl rfl (by exact ⟨by decide, rfl, nb_, rfl, ⟨by decide, rfl, nb_, rfl, ⟨by decide, rfl, nb_, rfl, ⟨by decide, rfl, nb_, rfl, trivial⟩⟩⟩⟩) rfl) (zA4 [4] (by simp) rfl rfl (zAB rfl (h4_ w_) rfl rfl rfl (by kernel_rfl) rfl (by kernel_rfl)) trivial (s_end (ds := []) (by kernel_rfl) (by kernel_rfl) (hK3 _ ?_)));refine zAh (endC rfl w_ (by kernel_rfl) (by kernel_rfl) (by kernel_rfl) rfl ?_);exact (show Out _ (.agg [.int m.a, .int (ixA (ndK (⟨b.px, a.py, a.pz⟩ : Node)) s.nodes), .int m.b, .int (ixA (ndK (⟨a.px, b.py, a.pz⟩ : Node)) s.nodes)]) (.agg [.int m.a, .int (ixA (ndK (⟨b.px, a.py, a.pz⟩ : Node)) s.nodes), .int m.b, .int (ixA (ndK (⟨a.px, b.py, a.pz⟩ : Node)) s.nodes)]) from zIt rfl fun p hp => by simp only [List.mem_cons, List.not_mem_nil, or_false] at hp; rcases hp with rfl | rfl | rfl | rfl <;> exact .sc _)
theorem GeometryC (s : Scaffold) (m : Member) (a b : Node) (hlen : s.nodes.length ≤ 1000000) (hma : 0 ≤ m.a ∧ m.a < (s.nodes.length : Int)) (hmb : 0 ≤ m.b ∧ m.b < (s.nodes.length : Int)) (ha : s.nodes[m.a.toNat]? = some a) (hb : s.nodes[m.b.toNat]? = some b) (hmk : 0 ≤ m.kind ∧ m.kind ≤ 9) : PCalls Tryz.prog 29 [.agg s.enc, .agg m.enc] (.bool (geoB s.nodes m)) := by
 refine pco Tryz.func29 rfl rfl (.sc _) (zAa rfl fun K1 hK1 => p_new rfl (e_box (n := 2) rfl rfl) ⟨rfl, by decide⟩ (p_new rfl (e_box (n := 3) rfl rfl) ⟨rfl, by decide⟩ (p_aS rfl (p_end (hK1 _ ?_))))); clear hK1 K1;refine zAm rfl fun K2 hK2 => zA0 (s_e rfl (e_faQ pl2 rfl) (zAz [2] (by simp) rfl rfl rfl rfl (e_lH (v := .lit _ _ _) rfl (h1_ w_) rfl) trivial (s_e rfl (e_faQ pl3 rfl) (zAz [3] (by simp) rfl rfl rfl rfl (e_lH (v := .sc _) rfl w_ rfl) trivial (s_e rfl (e_ixL rfl rfl) (s_e rfl (e_lB (n := 3) rfl (by first | exact zBj ha rfl)) ?_))))));refine s_e rfl (e_faQ pl2 rfl) (zAz [2] (by simp) rfl rfl rfl rfl (e_lH (v := .lit _ _ _) rfl (h1_ w_) rfl) trivial (s_e rfl (e_faQ pl3 rfl) (zAz [3] (by simp) rfl rfl rfl rfl (e_lH (v := .sc _) rfl w_ rfl) trivial (s_e rfl (e_ixL rfl rfl) (s_e rfl (e_lB (n := 3) rfl (by first | exact zBj hb rfl)) (s_new [] (by simp) rfl rfl rfl rfl (zAR (cs := [.int 0, .int 0, .int 0]) (n := 3) (by kernel_rfl) rfl (by decide)) (zAG (by decide)) (s_new [] (by simp) rfl rfl rfl rfl (zAR (cs := [.int 0, .int 0, .int 0]) (n := 3) (by kernel_rfl) rfl (by decide)) (zAG (by decide)) ?_)))))));refine zA4 [5] (by simp) rfl rfl (zAB rfl (h1_ w_) rfl rfl rfl (by kernel_rfl) rfl (by kernel_rfl)) trivial (zA4 [6] (by simp) rfl rfl (zAB rfl (h1_ w_) rfl rfl rfl (by kernel_rfl) rfl (by kernel_rfl)) trivial (s_end (ds := []) (by kernel_rfl) (by kernel_rfl) (hK2 _ ?_))); clear hK2 K2;refine zA1 [2, 3, 5, 6] [(7, .bool (((decide (a.px = b.px)) && (decide (a.py = b.py))) && (decide (a.pz < b.pz))))] (fun K3 hK3 => ?_) (fun r4 => ?_)
 ·skip
  refine zBw rfl fun K5 hK5 => zAM (g_e rfl (e_faQ pl3 rfl) (g_e rfl (e_lH (v := .sc _) rfl (h1_ w_) rfl) (g_e rfl (e_faQ pl3 rfl) (g_e rfl (e_lH (v := .sc _) rfl w_ rfl) (g_e rfl (e_eq rfl rfl) (g_mS rfl rfl ?_))))));refine zAw (fun hb6 => ?_) (fun hb6 => ?_)
  ·have hb6T := hb6; try simp only [zz] at hb6
   refine g_e rfl (e_faQ pl3 rfl) (g_e rfl (e_lH (v := .sc _) rfl (h1_ w_) rfl) (g_e rfl (e_faQ pl3 rfl) (g_e rfl (e_lH (v := .sc _) rfl w_ rfl) (g_e rfl (e_eq rfl rfl) (g_pT rfl rfl rfl (g_mS rfl rfl ?_))))));refine zAw (fun hb7 => ?_) (fun hb7 => ?_)
   ·have hb7T := hb7; try simp only [zz] at hb7
    refine g_e rfl (e_faQ pl3 rfl) (g_e rfl (e_lH (v := .sc _) rfl (h1_ w_) rfl) (g_e rfl (e_faQ pl3 rfl) (g_e rfl (e_lH (v := .sc _) rfl w_ rfl) (g_e rfl (e_lt rfl rfl) (g_pT rfl rfl rfl (g_aS rfl rfl (g_end (ds := [27, 28, 29, 30, 31, 34, 35, 36, 37, 38]) rfl rfl (hK5 _ ?_)))))))); clear hK5 K5;exact zAb (hK3 _ ⟨rfl, rfl, rfl, rfl, trivial⟩ ⟨(congrArg PV.bool (show ((decide (a.pz < b.pz)) : Bool) = (((decide (a.px = b.px)) && (decide (a.py = b.py))) && (decide (a.pz < b.pz))) by simp [hb7T, hb6T])), trivial⟩)
   have hb7F := hb7; try simp only [zz] at hb7
   iterate 5 refine gk_ ?_
   refine g_pF rfl rfl rfl (g_aS rfl rfl (g_end (ds := [27, 28, 29, 30, 31, 34, 35, 36, 37, 38]) rfl rfl (hK5 _ ?_))); clear hK5 K5;exact zAb (hK3 _ ⟨rfl, rfl, rfl, rfl, trivial⟩ ⟨(congrArg PV.bool (show (false : Bool) = (((decide (a.px = b.px)) && (decide (a.py = b.py))) && (decide (a.pz < b.pz))) by simp [hb7F, hb6T])), trivial⟩)
  have hb6F := hb6; try simp only [zz] at hb6
  iterate 5 refine gk_ ?_
  refine g_pF rfl rfl rfl (g_mS rfl rfl ?_);iterate 5 refine gk_ ?_
  refine g_pF rfl rfl rfl (g_aS rfl rfl (g_end (ds := [27, 28, 29, 30, 31, 34, 35, 36, 37, 38]) rfl rfl (hK5 _ ?_))); clear hK5 K5;exact zAb (hK3 _ ⟨rfl, rfl, rfl, rfl, trivial⟩ ⟨(congrArg PV.bool (show (false : Bool) = (((decide (a.px = b.px)) && (decide (a.py = b.py))) && (decide (a.pz < b.pz))) by rw [hb6F]; rfl)), trivial⟩)
 refine zAf (zAa rfl fun K8 hK8 => p_e rfl (e_faQ pl3 rfl) (p_e rfl (e_lH (v := .sc _) rfl (h4_ w_) rfl) (p_end (hK8 _ ?_)))); clear hK8 K8;refine zAg fun K9 hK9 => zAf (zAa rfl fun K10 hK10 => p_e rfl (e_eq rfl rfl) (p_aS rfl (p_end (hK10 _ ?_)))); clear hK10 K10;refine zA1 [2, 3, 5, 6, 7, 41] [(42, .bool (if (decide (m.kind = (0))) = true then (decide (m.kind = (0))) else (decide (m.kind = (7)))))] (fun K11 hK11 => ?_) (fun r12 => ?_)
 ·skip
  refine zAt rfl (fun hb13 => ?_) (fun hb13 => ?_)
  ·have hb13T := hb13; try simp only [zz] at hb13
   refine zAl ?_;exact zAb (hK11 _ ⟨rfl, rfl, rfl, rfl, rfl, rfl, trivial⟩ ⟨(congrArg PV.bool (show ((decide (m.kind = (0))) : Bool) = (if (decide (m.kind = (0))) = true then (decide (m.kind = (0))) else (decide (m.kind = (7)))) by rw [hb13T]; rfl)), trivial⟩)
  have hb13F := hb13; try simp only [zz] at hb13
  refine zAn rfl fun K14 hK14 => p_e rfl (e_eq rfl rfl) (p_aS rfl (p_end (hK14 _ ?_))); clear hK14 K14;exact zAb (hK11 _ ⟨rfl, rfl, rfl, rfl, rfl, rfl, trivial⟩ ⟨(congrArg PV.bool (show ((decide (m.kind = (7))) : Bool) = (if (decide (m.kind = (0))) = true then (decide (m.kind = (0))) else (decide (m.kind = (7)))) by rw [hb13F]; rfl)), trivial⟩)
 refine zAt rfl (fun hb15 => ?_) (fun hb15 => ?_)
 ·try simp only [zz] at hb15
  refine zAa rfl fun K16 hK16 => p_mS rfl (p_aS rfl (p_end (hK16 _ ?_))); clear hK16 K16;refine zAh (zAc (zAk (end1 (v := .sc _) rfl (out_b ?_))));rw [zDU ha hb];clear ha hb;rcases (by omega : m.kind = 0 ∨ m.kind = 1 ∨ m.kind = 2 ∨ m.kind = 3 ∨ m.kind = 4 ∨ m.kind = 5 ∨ m.kind = 6 ∨ m.kind = 7 ∨ m.kind = 8 ∨ m.kind = 9) with q | q | q | q | q | q | q | q | q | q <;> simp_all [geo2] <;> first | omega | (rw [Bool.eq_iff_iff]; simp; omega)
 try simp only [zz] at hb15
 refine zAa rfl fun K17 hK17 => p_e rfl (e_eq rfl rfl) (p_aS rfl (p_end (hK17 _ ?_))); clear hK17 K17;refine zAt rfl (fun hb18 => ?_) (fun hb18 => ?_)
 ·try simp only [zz] at hb18
  refine zA1 [] [(4, .bool ((decide (a.pz < b.pz)) && (!(((decide (a.px = b.px)) && (decide (a.py = b.py))) && (decide (a.pz < b.pz))))))] (fun K19 hK19 => ?_) (fun r20 => ?_)
  ·skip
   refine zBw rfl fun K21 hK21 => zAM (g_e rfl (e_faQ pl3 rfl) (g_e rfl (e_lH (v := .sc _) rfl (h1_ w_) rfl) (g_e rfl (e_faQ pl3 rfl) (g_e rfl (e_lH (v := .sc _) rfl w_ rfl) (g_e rfl (e_lt rfl rfl) (g_mS rfl rfl ?_))))));refine zAw (fun hb22 => ?_) (fun hb22 => ?_)
   ·have hb22T := hb22; try simp only [zz] at hb22
    refine g_mS rfl rfl (g_e rfl (e_not rfl) (g_pT rfl rfl rfl (g_aS rfl rfl (g_end (ds := [54, 55]) rfl rfl (hK21 _ ?_))))); clear hK21 K21;exact zAb (hK19 _ trivial ⟨(congrArg PV.bool (show ((!(((decide (a.px = b.px)) && (decide (a.py = b.py))) && (decide (a.pz < b.pz)))) : Bool) = ((decide (a.pz < b.pz)) && (!(((decide (a.px = b.px)) && (decide (a.py = b.py))) && (decide (a.pz < b.pz))))) by rw [hb22T]; rfl)), trivial⟩)
   have hb22F := hb22; try simp only [zz] at hb22
   iterate 2 refine gk_ ?_
   refine g_pF rfl rfl rfl (g_aS rfl rfl (g_end (ds := [54, 55]) rfl rfl (hK21 _ ?_))); clear hK21 K21;exact zAb (hK19 _ trivial ⟨(congrArg PV.bool (show (false : Bool) = ((decide (a.pz < b.pz)) && (!(((decide (a.px = b.px)) && (decide (a.py = b.py))) && (decide (a.pz < b.pz))))) by rw [hb22F]; rfl)), trivial⟩)
  refine zAh (zAc (zAk (end1 (v := .sc _) rfl (out_b ?_))));rw [zDU ha hb];clear ha hb;rcases (by omega : m.kind = 0 ∨ m.kind = 1 ∨ m.kind = 2 ∨ m.kind = 3 ∨ m.kind = 4 ∨ m.kind = 5 ∨ m.kind = 6 ∨ m.kind = 7 ∨ m.kind = 8 ∨ m.kind = 9) with q | q | q | q | q | q | q | q | q | q <;> simp_all [geo2] <;> first | omega | (rw [Bool.eq_iff_iff]; simp; omega)
 try simp only [zz] at hb18
 refine zAa rfl fun K23 hK23 => p_e rfl (e_eq rfl rfl) (p_aS rfl (p_end (hK23 _ ?_))); clear hK23 K23;refine zAt rfl (fun hb24 => ?_) (fun hb24 => ?_)
 ·try simp only [zz] at hb24
  refine zAa rfl fun K25 hK25 => p_e rfl (e_lA (cs := Scaffold.enc (s)) (n := 2) rfl (h1_ (h4_ w_))) (p_e rfl (e_lA (cs := Member.enc (m)) (n := 3) rfl (h4_ w_)) (zBs rfl (.cons (zAx (Scaffold.pure _)) (.cons (zAx (Member.pure _)) .nil)) (CornersC s m a b hlen hma hmb ha hb) (p_new rfl (zAR (cs := [.int 0, .int 0, .int 0, .int 0]) (n := 4) (by kernel_rfl) rfl (by decide)) (zAG (by decide)) (zAQ rfl (zAB rfl w_ rfl rfl rfl (by kernel_rfl) rfl (by kernel_rfl)) trivial (p_end (hK25 _ ?_)))))); clear hK25 K25;refine zA1 [] [(4, .bool (((((decide (a.pz = b.pz)) && (decide (a.px < b.px))) && (decide (a.py < b.py))) && (decide ((0) ≤ (ixA (ndK (⟨b.px, a.py, a.pz⟩ : Node)) s.nodes)))) && (decide ((0) ≤ (ixA (ndK (⟨a.px, b.py, a.pz⟩ : Node)) s.nodes)))))] (fun K26 hK26 => ?_) (fun r27 => ?_)
  ·skip
   refine zBw rfl fun K28 hK28 => zAM (g_e rfl (e_faQ pl3 rfl) (g_e rfl (e_lH (v := .sc _) rfl (h3_ w_) rfl) (g_e rfl (e_faQ pl3 rfl) (g_e rfl (e_lH (v := .sc _) rfl (h2_ w_) rfl) (g_e rfl (e_eq rfl rfl) (g_mS rfl rfl ?_))))));refine zAw (fun hb29 => ?_) (fun hb29 => ?_)
   ·have hb29T := hb29; try simp only [zz] at hb29
    refine g_e rfl (e_faQ pl3 rfl) (g_e rfl (e_lH (v := .sc _) rfl (h3_ w_) rfl) (g_e rfl (e_faQ pl3 rfl) (g_e rfl (e_lH (v := .sc _) rfl (h2_ w_) rfl) (g_e rfl (e_lt rfl rfl) (g_pT rfl rfl rfl (g_mS rfl rfl ?_))))));refine zAw (fun hb30 => ?_) (fun hb30 => ?_)
    ·have hb30T := hb30; try simp only [zz] at hb30
     refine g_e rfl (e_faQ pl3 rfl) (g_e rfl (e_lH (v := .sc _) rfl (h3_ w_) rfl) (g_e rfl (e_faQ pl3 rfl) (g_e rfl (e_lH (v := .sc _) rfl (h2_ w_) rfl) (g_e rfl (e_lt rfl rfl) (g_pT rfl rfl rfl (g_mS rfl rfl ?_))))));refine zAw (fun hb31 => ?_) (fun hb31 => ?_)
     ·have hb31T := hb31; try simp only [zz] at hb31
      refine g_e rfl (zMw (n := 4) (e := 3) rfl rfl (by kernel_rfl) (by kernel_rfl) (by omega)) (g_e rfl (e_lH (v := .sc _) rfl w_ rfl) (g_e rfl (e_ge rfl rfl) (g_pT rfl rfl rfl (g_mS rfl rfl ?_))));refine zAw (fun hb32 => ?_) (fun hb32 => ?_)
      ·have hb32T := hb32; try simp only [zz] at hb32
       refine g_e rfl (zMw (n := 4) (e := 3) rfl rfl (by kernel_rfl) (by kernel_rfl) (by omega)) (g_e rfl (e_lH (v := .sc _) rfl w_ rfl) (g_e rfl (e_ge rfl rfl) (g_pT rfl rfl rfl (g_aS rfl rfl (g_end (ds := [68, 69, 70, 71, 72, 75, 76, 77, 78, 79, 82, 83, 84, 87, 88, 89]) rfl rfl (hK28 _ ?_)))))); clear hK28 K28;exact zAb (hK26 _ trivial ⟨(congrArg PV.bool (show ((decide ((0) ≤ (ixA (ndK (⟨a.px, b.py, a.pz⟩ : Node)) s.nodes))) : Bool) = (((((decide (a.pz = b.pz)) && (decide (a.px < b.px))) && (decide (a.py < b.py))) && (decide ((0) ≤ (ixA (ndK (⟨b.px, a.py, a.pz⟩ : Node)) s.nodes)))) && (decide ((0) ≤ (ixA (ndK (⟨a.px, b.py, a.pz⟩ : Node)) s.nodes)))) by simp [hb32T, hb31T, hb30T, hb29T])), trivial⟩)
      have hb32F := hb32; try simp only [zz] at hb32
      iterate 3 refine gk_ ?_
      refine g_pF rfl rfl rfl (g_aS rfl rfl (g_end (ds := [68, 69, 70, 71, 72, 75, 76, 77, 78, 79, 82, 83, 84, 87, 88, 89]) rfl rfl (hK28 _ ?_))); clear hK28 K28;exact zAb (hK26 _ trivial ⟨(congrArg PV.bool (show (false : Bool) = (((((decide (a.pz = b.pz)) && (decide (a.px < b.px))) && (decide (a.py < b.py))) && (decide ((0) ≤ (ixA (ndK (⟨b.px, a.py, a.pz⟩ : Node)) s.nodes)))) && (decide ((0) ≤ (ixA (ndK (⟨a.px, b.py, a.pz⟩ : Node)) s.nodes)))) by simp [hb32F, hb31T, hb30T, hb29T])), trivial⟩)
     have hb31F := hb31; try simp only [zz] at hb31
     iterate 3 refine gk_ ?_
     refine g_pF rfl rfl rfl (g_mS rfl rfl ?_);iterate 3 refine gk_ ?_
     refine g_pF rfl rfl rfl (g_aS rfl rfl (g_end (ds := [68, 69, 70, 71, 72, 75, 76, 77, 78, 79, 82, 83, 84, 87, 88, 89]) rfl rfl (hK28 _ ?_))); clear hK28 K28;exact zAb (hK26 _ trivial ⟨(congrArg PV.bool (show (false : Bool) = (((((decide (a.pz = b.pz)) && (decide (a.px < b.px))) && (decide (a.py < b.py))) && (decide ((0) ≤ (ixA (ndK (⟨b.px, a.py, a.pz⟩ : Node)) s.nodes)))) && (decide ((0) ≤ (ixA (ndK (⟨a.px, b.py, a.pz⟩ : Node)) s.nodes)))) by simp [hb31F, hb30T, hb29T])), trivial⟩)
    have hb30F := hb30; try simp only [zz] at hb30
    iterate 5 refine gk_ ?_
    refine g_pF rfl rfl rfl (g_mS rfl rfl ?_);iterate 3 refine gk_ ?_
    refine g_pF rfl rfl rfl (g_mS rfl rfl ?_);iterate 3 refine gk_ ?_
    refine g_pF rfl rfl rfl (g_aS rfl rfl (g_end (ds := [68, 69, 70, 71, 72, 75, 76, 77, 78, 79, 82, 83, 84, 87, 88, 89]) rfl rfl (hK28 _ ?_))); clear hK28 K28;exact zAb (hK26 _ trivial ⟨(congrArg PV.bool (show (false : Bool) = (((((decide (a.pz = b.pz)) && (decide (a.px < b.px))) && (decide (a.py < b.py))) && (decide ((0) ≤ (ixA (ndK (⟨b.px, a.py, a.pz⟩ : Node)) s.nodes)))) && (decide ((0) ≤ (ixA (ndK (⟨a.px, b.py, a.pz⟩ : Node)) s.nodes)))) by simp [hb30F, hb29T])), trivial⟩)
   have hb29F := hb29; try simp only [zz] at hb29
   iterate 5 refine gk_ ?_
   refine g_pF rfl rfl rfl (g_mS rfl rfl ?_);iterate 5 refine gk_ ?_
   refine g_pF rfl rfl rfl (g_mS rfl rfl ?_);iterate 3 refine gk_ ?_
   refine g_pF rfl rfl rfl (g_mS rfl rfl ?_);iterate 3 refine gk_ ?_
   refine g_pF rfl rfl rfl (g_aS rfl rfl (g_end (ds := [68, 69, 70, 71, 72, 75, 76, 77, 78, 79, 82, 83, 84, 87, 88, 89]) rfl rfl (hK28 _ ?_))); clear hK28 K28;exact zAb (hK26 _ trivial ⟨(congrArg PV.bool (show (false : Bool) = (((((decide (a.pz = b.pz)) && (decide (a.px < b.px))) && (decide (a.py < b.py))) && (decide ((0) ≤ (ixA (ndK (⟨b.px, a.py, a.pz⟩ : Node)) s.nodes)))) && (decide ((0) ≤ (ixA (ndK (⟨a.px, b.py, a.pz⟩ : Node)) s.nodes)))) by rw [hb29F]; rfl)), trivial⟩)
  refine zAh (zAc (zAk (end1 (v := .sc _) rfl (out_b ?_))));rw [zDU ha hb];clear ha hb;rcases (by omega : m.kind = 0 ∨ m.kind = 1 ∨ m.kind = 2 ∨ m.kind = 3 ∨ m.kind = 4 ∨ m.kind = 5 ∨ m.kind = 6 ∨ m.kind = 7 ∨ m.kind = 8 ∨ m.kind = 9) with q | q | q | q | q | q | q | q | q | q <;> simp_all [geo2] <;> first | omega | (rw [Bool.eq_iff_iff]; simp; omega)
 try simp only [zz] at hb24
 refine zAf (zAa rfl fun K33 hK33 => p_e rfl (e_eq rfl rfl) (p_aS rfl (p_end (hK33 _ ?_)))); clear hK33 K33;refine zA1 [3, 5, 6] [(91, .bool (if (decide (m.kind = (8))) = true then (decide (m.kind = (8))) else (decide (m.kind = (9)))))] (fun K34 hK34 => ?_) (fun r35 => ?_)
 ·skip
  refine zAt rfl (fun hb36 => ?_) (fun hb36 => ?_)
  ·have hb36T := hb36; try simp only [zz] at hb36
   refine zAl ?_;exact zAb (hK34 _ ⟨rfl, rfl, rfl, trivial⟩ ⟨(congrArg PV.bool (show ((decide (m.kind = (8))) : Bool) = (if (decide (m.kind = (8))) = true then (decide (m.kind = (8))) else (decide (m.kind = (9)))) by rw [hb36T]; rfl)), trivial⟩)
  have hb36F := hb36; try simp only [zz] at hb36
  refine zAn rfl fun K37 hK37 => p_e rfl (e_eq rfl rfl) (p_aS rfl (p_end (hK37 _ ?_))); clear hK37 K37;exact zAb (hK34 _ ⟨rfl, rfl, rfl, trivial⟩ ⟨(congrArg PV.bool (show ((decide (m.kind = (9))) : Bool) = (if (decide (m.kind = (8))) = true then (decide (m.kind = (8))) else (decide (m.kind = (9)))) by rw [hb36F]; rfl)), trivial⟩)
 refine zAt rfl (fun hb38 => ?_) (fun hb38 => ?_)
 ·try simp only [zz] at hb38
  refine zAa rfl fun K39 hK39 => p_e rfl (e_faQ pl3 rfl) (p_e rfl (e_lH (v := .sc _) rfl (h4_ w_) rfl) (p_e rfl (e_faQ pl3 rfl) (p_e rfl (e_lH (v := .sc _) rfl (h4_ w_) rfl) (p_e rfl (e_eq rfl rfl) (p_aS rfl (p_end (hK39 _ ?_))))))); clear hK39 K39;refine zAh (zAc (zAk (end1 (v := .sc _) rfl (out_b ?_))));rw [zDU ha hb];clear ha hb;rcases (by omega : m.kind = 0 ∨ m.kind = 1 ∨ m.kind = 2 ∨ m.kind = 3 ∨ m.kind = 4 ∨ m.kind = 5 ∨ m.kind = 6 ∨ m.kind = 7 ∨ m.kind = 8 ∨ m.kind = 9) with q | q | q | q | q | q | q | q | q | q <;> simp_all [geo2] <;> first | omega | (rw [Bool.eq_iff_iff]; simp; omega)
 try simp only [zz] at hb38
 refine zAl (zAj (zAb (hK9 _ ?_))); clear hK9 K9;refine zA1 [] [(4, .bool ((decide (a.pz = b.pz)) && (((decide (a.px < b.px)) && (decide (a.py = b.py))) || ((decide (a.px = b.px)) && (decide (a.py < b.py))))))] (fun K40 hK40 => ?_) (fun r41 => ?_)
 ·skip
  refine zBw rfl fun K42 hK42 => zAM (g_e rfl (e_faQ pl3 rfl) (g_e rfl (e_lH (v := .sc _) rfl (h1_ w_) rfl) (g_e rfl (e_faQ pl3 rfl) (g_e rfl (e_lH (v := .sc _) rfl w_ rfl) (g_e rfl (e_eq rfl rfl) (g_mS rfl rfl ?_))))));refine zAw (fun hb43 => ?_) (fun hb43 => ?_)
  ·have hb43T := hb43; try simp only [zz] at hb43
   refine g_e rfl (e_faQ pl3 rfl) (g_e rfl (e_lH (v := .sc _) rfl (h1_ w_) rfl) (g_e rfl (e_faQ pl3 rfl) (g_e rfl (e_lH (v := .sc _) rfl w_ rfl) (g_e rfl (e_lt rfl rfl) (g_mS rfl rfl ?_)))));refine zAw (fun hb44 => ?_) (fun hb44 => ?_)
   ·have hb44T := hb44; try simp only [zz] at hb44
    refine g_e rfl (e_faQ pl3 rfl) (g_e rfl (e_lH (v := .sc _) rfl (h1_ w_) rfl) (g_e rfl (e_faQ pl3 rfl) (g_e rfl (e_lH (v := .sc _) rfl w_ rfl) (g_e rfl (e_eq rfl rfl) (g_pT rfl rfl rfl (g_mS rfl rfl ?_))))));refine zAw (fun hb45 => ?_) (fun hb45 => ?_)
    ·have hb45T := hb45; try simp only [zz] at hb45
     iterate 12 refine gk_ ?_
     refine g_pT rfl rfl rfl (g_pT rfl rfl rfl (g_aS rfl rfl (g_end (ds := [105, 106, 107, 108, 109, 110, 111, 112, 113, 114, 115, 116, 117, 118, 119, 120, 121, 122, 123, 124, 125, 126, 127, 128, 129, 130]) rfl rfl (hK42 _ ?_)))); clear hK42 K42;exact zAb (hK40 _ trivial ⟨(congrArg PV.bool (show (true : Bool) = ((decide (a.pz = b.pz)) && (((decide (a.px < b.px)) && (decide (a.py = b.py))) || ((decide (a.px = b.px)) && (decide (a.py < b.py))))) by simp [hb45T, hb44T, hb43T])), trivial⟩)
    have hb45F := hb45; try simp only [zz] at hb45
    refine g_e rfl (e_faQ pl3 rfl) (g_e rfl (e_lH (v := .sc _) rfl (h1_ w_) rfl) (g_e rfl (e_faQ pl3 rfl) (g_e rfl (e_lH (v := .sc _) rfl w_ rfl) (g_e rfl (e_eq rfl rfl) (g_mS rfl rfl ?_)))));refine zAw (fun hb46 => ?_) (fun hb46 => ?_)
    ·have hb46T := hb46; try simp only [zz] at hb46
     refine g_e rfl (e_faQ pl3 rfl) (g_e rfl (e_lH (v := .sc _) rfl (h1_ w_) rfl) (g_e rfl (e_faQ pl3 rfl) (g_e rfl (e_lH (v := .sc _) rfl w_ rfl) (g_e rfl (e_lt rfl rfl) (g_pT rfl rfl rfl (g_pF rfl rfl rfl (g_pT rfl rfl rfl ?_)))))));refine g_aS rfl rfl (g_end (ds := [105, 106, 107, 108, 109, 110, 111, 112, 113, 114, 115, 116, 117, 118, 119, 120, 121, 122, 123, 124, 125, 126, 127, 128, 129, 130]) rfl rfl (hK42 _ ?_)); clear hK42 K42;exact zAb (hK40 _ trivial ⟨(congrArg PV.bool (show ((decide (a.py < b.py)) : Bool) = ((decide (a.pz = b.pz)) && (((decide (a.px < b.px)) && (decide (a.py = b.py))) || ((decide (a.px = b.px)) && (decide (a.py < b.py))))) by simp [hb46T, hb45F, hb44T, hb43T])), trivial⟩)
    have hb46F := hb46; try simp only [zz] at hb46
    iterate 5 refine gk_ ?_
    refine g_pF rfl rfl rfl (g_pF rfl rfl rfl (g_pT rfl rfl rfl (g_aS rfl rfl (g_end (ds := [105, 106, 107, 108, 109, 110, 111, 112, 113, 114, 115, 116, 117, 118, 119, 120, 121, 122, 123, 124, 125, 126, 127, 128, 129, 130]) rfl rfl (hK42 _ ?_))))); clear hK42 K42;exact zAb (hK40 _ trivial ⟨(congrArg PV.bool (show (false : Bool) = ((decide (a.pz = b.pz)) && (((decide (a.px < b.px)) && (decide (a.py = b.py))) || ((decide (a.px = b.px)) && (decide (a.py < b.py))))) by simp [hb46F, hb45F, hb44T, hb43T])), trivial⟩)
   have hb44F := hb44; try simp only [zz] at hb44
   iterate 5 refine gk_ ?_
   refine g_pF rfl rfl rfl (g_mS rfl rfl (g_e rfl (e_faQ pl3 rfl) (g_e rfl (e_lH (v := .sc _) rfl (h1_ w_) rfl) (g_e rfl (e_faQ pl3 rfl) (g_e rfl (e_lH (v := .sc _) rfl w_ rfl) (g_e rfl (e_eq rfl rfl) (g_mS rfl rfl ?_)))))));refine zAw (fun hb47 => ?_) (fun hb47 => ?_)
   ·have hb47T := hb47; try simp only [zz] at hb47
    refine g_e rfl (e_faQ pl3 rfl) (g_e rfl (e_lH (v := .sc _) rfl (h1_ w_) rfl) (g_e rfl (e_faQ pl3 rfl) (g_e rfl (e_lH (v := .sc _) rfl w_ rfl) (g_e rfl (e_lt rfl rfl) (g_pT rfl rfl rfl (g_pF rfl rfl rfl (g_pT rfl rfl rfl ?_)))))));refine g_aS rfl rfl (g_end (ds := [105, 106, 107, 108, 109, 110, 111, 112, 113, 114, 115, 116, 117, 118, 119, 120, 121, 122, 123, 124, 125, 126, 127, 128, 129, 130]) rfl rfl (hK42 _ ?_)); clear hK42 K42;exact zAb (hK40 _ trivial ⟨(congrArg PV.bool (show ((decide (a.py < b.py)) : Bool) = ((decide (a.pz = b.pz)) && (((decide (a.px < b.px)) && (decide (a.py = b.py))) || ((decide (a.px = b.px)) && (decide (a.py < b.py))))) by simp [hb47T, hb44F, hb43T])), trivial⟩)
   have hb47F := hb47; try simp only [zz] at hb47
   iterate 5 refine gk_ ?_
   refine g_pF rfl rfl rfl (g_pF rfl rfl rfl (g_pT rfl rfl rfl (g_aS rfl rfl (g_end (ds := [105, 106, 107, 108, 109, 110, 111, 112, 113, 114, 115, 116, 117, 118, 119, 120, 121, 122, 123, 124, 125, 126, 127, 128, 129, 130]) rfl rfl (hK42 _ ?_))))); clear hK42 K42;exact zAb (hK40 _ trivial ⟨(congrArg PV.bool (show (false : Bool) = ((decide (a.pz = b.pz)) && (((decide (a.px < b.px)) && (decide (a.py = b.py))) || ((decide (a.px = b.px)) && (decide (a.py < b.py))))) by simp [hb47F, hb44F, hb43T])), trivial⟩)
  have hb43F := hb43; try simp only [zz] at hb43
  iterate 26 refine gk_ ?_
  refine g_pF rfl rfl rfl (g_aS rfl rfl (g_end (ds := [105, 106, 107, 108, 109, 110, 111, 112, 113, 114, 115, 116, 117, 118, 119, 120, 121, 122, 123, 124, 125, 126, 127, 128, 129, 130]) rfl rfl (hK42 _ ?_))); clear hK42 K42;exact zAb (hK40 _ trivial ⟨(congrArg PV.bool (show (false : Bool) = ((decide (a.pz = b.pz)) && (((decide (a.px < b.px)) && (decide (a.py = b.py))) || ((decide (a.px = b.px)) && (decide (a.py < b.py))))) by rw [hb43F]; rfl)), trivial⟩)
 refine zAh (end1 (v := .sc _) rfl (out_b ?_));rw [zDU ha hb];clear ha hb;rcases (by omega : m.kind = 0 ∨ m.kind = 1 ∨ m.kind = 2 ∨ m.kind = 3 ∨ m.kind = 4 ∨ m.kind = 5 ∨ m.kind = 6 ∨ m.kind = 7 ∨ m.kind = 8 ∨ m.kind = 9) with q | q | q | q | q | q | q | q | q | q <;> simp_all [geo2] <;> first | omega | (rw [Bool.eq_iff_iff]; simp; omega)
theorem zKZ (s : Scaffold) (hs1 : s.nodes.length ≤ 1000000) (hs2 : s.members.length ≤ 1000000) : PCalls Tryz.prog 8 [.agg s.enc] (.int (scfE s)) := by
 refine pco Tryz.func8 rfl rfl (.sc _) (zAa rfl fun K1 hK1 => p_new rfl (e_box (n := 2) rfl rfl) ⟨rfl, by decide⟩ (p_aS rfl (p_end (hK1 _ ?_))));refine zAf (zAm rfl fun K2 hK2 => zAM (g_e rfl (e_faQ pl2 rfl) (g_e rfl (e_lH (v := .lit _ _ _) rfl w_ rfl) (g_e rfl (e_len rfl (by kernel_rfl)) (g_e rfl (e_gt rfl rfl) (g_mS rfl rfl ?_))))));refine zAw (fun hb3 => ?_) (fun hb3 => ?_)
 ·have hb3T := hb3; try simp only [zz] at hb3
  iterate 4 refine gk_ ?_
  refine g_pT rfl rfl rfl (g_end (ds := [13, 14, 15, 16]) rfl rfl (hK2 _ ?_));refine zAe (t := true) rfl fun K4 hK4 => ⟨fun _ => ?_, nofun⟩
  refine zAa rfl fun K5 hK5 => p_aS rfl (p_end (hK5 _ ?_));refine zAh (zAk (end1 (v := .sc _) rfl ?_));exact out_i (zJr (by omega))
 have hb3F := hb3; try simp only [zz] at hb3
 refine g_e rfl (e_faQ pl2 rfl) (g_e rfl (e_lH (v := .lit _ _ _) rfl w_ rfl) (g_e rfl (e_len rfl (by kernel_rfl)) (g_e rfl (e_gt rfl rfl) (g_pF rfl rfl rfl (g_end (ds := [13, 14, 15, 16]) rfl rfl (hK2 _ ?_))))));refine zAe rfl fun K6 hK6 => ⟨fun hb7 => ?_, fun hb7 => ?_⟩
 ·have hb7T := hb7; try simp only [zz] at hb7
  refine zAa rfl fun K8 hK8 => p_aS rfl (p_end (hK8 _ ?_));refine zAh (zAk (end1 (v := .sc _) rfl ?_));exact out_i (zJr (by omega))
 have hb7F := hb7; try simp only [zz] at hb7
 refine zAl (zAb (hK6 _ ?_));refine zAf ?_;have hsz : ¬ (1000 < s.nodes.length ∨ 4000 < s.members.length) := by simp only [lM] at *; omega
 refine zAa rfl fun K9 hK9 => p_aS rfl (p_end (hK9 _ ?_));refine zAg fun K10 hK10 => zAE (α := Nat) [1] (fun (k : Nat) => [(3, .int (k))]) (fun (k : Nat) (h : Heap) (_ : Nat → Nat) => ((k) ≤ s.nodes.length) ∧ (frsF (nodE s.nodes) 0 s.nodes = frsF (nodE s.nodes) (k) (s.nodes.drop (k))) ∧ (h (1, 0) = some (.rows 2 [Scaffold.enc s]))) (fun (k : Nat) => s.nodes.length - (k)) (0) (by exact ⟨rfl, trivial⟩) (by exact ⟨by exact Nat.zero_le _, by exact rfl, w_⟩) fun k r11 h12 c13 hj14 => ?_;obtain ⟨hk, hinv, hihj14_0⟩ := hj14;try dsimp only at hk
 try dsimp only at hinv
 try dsimp only at hihj14_0
 show pwp _ _ (loopQ _ _ _) ⟨sets (mix _ _ _) [(3, .int k)], _, _⟩;refine zAf (zAa rfl fun K15 hK15 => p_mS rfl (p_e rfl (e_faQ pl2 rfl) (p_e rfl (e_lH (v := .lit _ _ _) rfl hihj14_0 rfl) (p_e rfl (e_len rfl (by kernel_rfl)) (p_e rfl (e_lt rfl rfl) (p_end (hK15 _ ?_)))))));refine zAe rfl fun K16 hK16 => ⟨fun hb17 => ?_, fun hb17 => ?_⟩
 ·have hb17R := hb17; try simp only [zz] at hb17
  obtain ⟨n, hx, hd, ht⟩ := zBx (xs := s.nodes) (i := k) (by omega);refine zAl (zAb (hK16 _ ?_));refine zAg fun K18 hK18 => zAa rfl fun K19 hK19 => p_e rfl (e_faQ pl2 rfl) (p_e rfl (e_lH (v := .lit _ _ _) rfl hihj14_0 rfl) (p_mS rfl (p_e rfl (e_ixL rfl rfl) (p_e rfl (e_lB (n := 3) rfl (by first | exact zBj hx rfl)) (p_new rfl (zAR (cs := [.int 0, .int 0, .int 0]) (n := 3) (by kernel_rfl) rfl (by decide)) (zAG (by decide)) ?_)))));refine zAQ rfl (zAB rfl w_ rfl rfl rfl (by kernel_rfl) rfl (by kernel_rfl)) trivial (p_end (hK19 _ ?_));refine zAf (zAm rfl fun K20 hK20 => zAM (g_e rfl (e_faQ pl3 rfl) (g_e rfl (e_lH (v := .sc _) rfl w_ rfl) (zBd rfl rfl rfl rfl (.cons zAY .nil) (zLU _) (g_e rfl (e_not rfl) (g_mS rfl rfl ?_))))));refine zAw (fun hb21 => ?_) (fun hb21 => ?_)
  ·have hb21T := hb21; try simp only [zz] at hb21
   iterate 2 refine gk_ ?_
   refine zAF rfl rfl rfl (zCO rfl rfl rfl (g_pT rfl rfl rfl (g_mS rfl rfl ?_)));iterate 2 refine gk_ ?_
   refine zAF rfl rfl rfl (zCO rfl rfl rfl (g_pT rfl rfl rfl (g_end (ds := [35, 36, 37, 38, 41, 42, 43, 44]) rfl rfl (hK20 _ ?_))));refine zAe (t := true) rfl fun K22 hK22 => ⟨fun _ => ?_, nofun⟩
   refine zAa rfl fun K23 hK23 => p_aS rfl (p_end (hK23 _ ?_));refine zAh (zAk (zAc (zAk (zAP (zAc (zAk (end1 (v := .sc _) rfl ?_)))))));exact out_i (zHN hsz (zCs hinv hd (zKt (by first | exact spc_1 (by assumption) | exact spc_2 (by assumption) | exact spc_3 (by assumption))) (by decide)) (by decide))
  have hb21F := hb21; try simp only [zz] at hb21
  refine g_e rfl (e_faQ pl3 rfl) (g_e rfl (e_lH (v := .sc _) rfl w_ rfl) (zBd rfl rfl rfl rfl (.cons zAY .nil) (zLU _) (g_e rfl (e_not rfl) (g_pF rfl rfl rfl (g_mS rfl rfl ?_)))));refine zAw (fun hb24 => ?_) (fun hb24 => ?_)
  ·have hb24T := hb24; try simp only [zz] at hb24
   iterate 2 refine gk_ ?_
   refine zAF rfl rfl rfl (zCO rfl rfl rfl (g_pT rfl rfl rfl (g_end (ds := [35, 36, 37, 38, 41, 42, 43, 44]) rfl rfl (hK20 _ ?_))));refine zAe (t := true) rfl fun K25 hK25 => ⟨fun _ => ?_, nofun⟩
   refine zAa rfl fun K26 hK26 => p_aS rfl (p_end (hK26 _ ?_));refine zAh (zAk (zAc (zAk (zAP (zAc (zAk (end1 (v := .sc _) rfl ?_)))))));exact out_i (zHN hsz (zCs hinv hd (zKt (by first | exact spc_1 (by assumption) | exact spc_2 (by assumption) | exact spc_3 (by assumption))) (by decide)) (by decide))
  have hb24F := hb24; try simp only [zz] at hb24
  refine g_e rfl (e_faQ pl3 rfl) (g_e rfl (e_lH (v := .sc _) rfl w_ rfl) (zBd rfl rfl rfl rfl (.cons zAY .nil) (zLU _) (g_e rfl (e_not rfl) (g_pF rfl rfl rfl (g_end (ds := [35, 36, 37, 38, 41, 42, 43, 44]) rfl rfl (hK20 _ ?_))))));refine zAe rfl fun K27 hK27 => ⟨fun hb28 => ?_, fun hb28 => ?_⟩
  ·have hb28T := hb28; try simp only [zz] at hb28
   refine zAa rfl fun K29 hK29 => p_aS rfl (p_end (hK29 _ ?_));refine zAh (zAk (zAc (zAk (zAP (zAc (zAk (end1 (v := .sc _) rfl ?_)))))));exact out_i (zHN hsz (zCs hinv hd (zKt (by first | exact spc_1 (by assumption) | exact spc_2 (by assumption) | exact spc_3 (by assumption))) (by decide)) (by decide))
  have hb28F := hb28; try simp only [zz] at hb28
  refine zAl (zAb (hK27 _ ?_));refine zAa rfl fun K30 hK30 => p_e rfl (e_lA (cs := Scaffold.enc (s)) (n := 2) rfl (h2_ hihj14_0)) (p_e rfl (e_lA (cs := Node.enc (n)) (n := 3) rfl w_) (zBs rfl (.cons (zAx (Scaffold.pure _)) (.cons (zAx (Node.pure _)) .nil)) (zKn _ _ (by omega)) (p_mS rfl (p_e rfl (e_ne rfl rfl) (p_end (hK30 _ ?_))))));refine zAt rfl (fun hb31 => ?_) (fun hb31 => ?_)
  ·have hb31T := hb31; try simp only [zz] at hb31
   refine zAa rfl fun K32 hK32 => p_aS rfl (p_end (hK32 _ ?_));refine zAh (zAc (zAk (zAP (zAc (zAk (end1 (v := .sc _) rfl ?_))))));exact out_i (zHN hsz (zCs hinv hd (zL9 (spc_t (by assumption) (by assumption) (by assumption)) ((zJJ hx).1 (by assumption))) (by decide)) (by decide))
  have hb31F := hb31; try simp only [zz] at hb31
  refine zAl (zAj (zAb (hK18 _ ?_)));refine zAn rfl fun K33 hK33 => p_mS rfl (p_e rfl (e_adL rfl rfl) (p_aS rfl (p_end (hK33 _ ?_))));exact zAo (k + 1) (by show _ < _; omega) ⟨rfl, trivial⟩ ⟨rfl, trivial⟩ (by exact ⟨by show _ + 1 ≤ _; simp only [lM] at *; omega, by exact zKz hinv hd (zMa (spc_t (by assumption) (by assumption) (by assumption)) (fun q => (zJJ hx).2 q (by assumption))), (h2_ hihj14_0)⟩)
 have hb17R := hb17; try simp only [zz] at hb17
 have hN := zIN hinv (by simp only [lM] at *; omega);refine zAJ (zAK ?_);clear hK16 K16;refine zAC (zAA (zAb (hK10 _ ?_)));refine zAf (zAa rfl fun K34 hK34 => p_aS rfl (p_end (hK34 _ ?_)));refine zAg fun K35 hK35 => zAE (α := Nat) [1] (fun (k : Nat) => [(5, .int (k))]) (fun (k : Nat) (h : Heap) (_ : Nat → Nat) => ((k) ≤ s.members.length) ∧ (frsF (memE s) 0 s.members = frsF (memE s) (k) (s.members.drop (k))) ∧ (h (1, 0) = some (.rows 2 [Scaffold.enc s]))) (fun (k : Nat) => s.members.length - (k)) (0) (by exact ⟨rfl, trivial⟩) (by exact ⟨by exact Nat.zero_le _, by exact rfl, hihj14_0⟩) fun k r36 h37 c38 hj39 => ?_;obtain ⟨hk, hinv2, hihj39_0⟩ := hj39;try dsimp only at hk
 try dsimp only at hinv2
 try dsimp only at hihj39_0
 show pwp _ _ (loopQ _ _ _) ⟨sets (mix _ _ _) [(5, .int k)], _, _⟩;refine zAf (zAa rfl fun K40 hK40 => p_mS rfl (p_e rfl (e_faQ pl2 rfl) (p_e rfl (e_lH (v := .lit _ _ _) rfl hihj39_0 rfl) (p_e rfl (e_len rfl (by kernel_rfl)) (p_e rfl (e_lt rfl rfl) (p_end (hK40 _ ?_)))))));refine zAe rfl fun K41 hK41 => ⟨fun hb42 => ?_, fun hb42 => ?_⟩
 ·have hb42R := hb42; try simp only [zz] at hb42
  obtain ⟨m, hx, hd, ht⟩ := zBx (xs := s.members) (i := k) (by omega);refine zAl (zAb (hK41 _ ?_));refine zAg fun K43 hK43 => zAa rfl fun K44 hK44 => p_e rfl (e_faQ pl2 rfl) (p_e rfl (e_lH (v := .lit _ _ _) rfl hihj39_0 rfl) (p_mS rfl (p_e rfl (e_ixL rfl rfl) (p_e rfl (e_lB (n := 3) rfl (by first | exact zBj hx rfl)) (p_new rfl (zAR (cs := [.int 0, .int 0, .int 0]) (n := 3) (by kernel_rfl) rfl (by decide)) (zAG (by decide)) ?_)))));refine zAQ rfl (zAB rfl w_ rfl rfl rfl (by kernel_rfl) rfl (by kernel_rfl)) trivial (p_end (hK44 _ ?_));refine zAf (zAa rfl fun K45 hK45 => p_e rfl (e_faQ pl3 rfl) (p_e rfl (e_lH (v := .sc _) rfl w_ rfl) (zBs rfl (.cons zAY (.cons zAY (.cons zAY .nil))) (zKl _ _ _) (p_e rfl (e_not rfl) (p_end (hK45 _ ?_))))));refine zAe rfl fun K46 hK46 => ⟨fun hb47 => ?_, fun hb47 => ?_⟩
  ·have hb47T := hb47; try simp only [zz] at hb47
   refine zAa rfl fun K48 hK48 => p_aS rfl (p_end (hK48 _ ?_));refine zAh (zAk (zAc (zAk (zAP (zAc (zAk (end1 (v := .sc _) rfl ?_)))))));exact out_i (zEE hsz hN (zCs hinv2 hd (zLH (by assumption)) (by decide)))
  have hb47F := hb47; try simp only [zz] at hb47
  refine zAl (zAb (hK46 _ ?_));refine zAf ?_;have hm1 : 0 ≤ m.kind ∧ m.kind ≤ 9 := (by assumption)
  refine zAm rfl fun K49 hK49 => zAM (g_e rfl (e_faQ pl3 rfl) (g_e rfl (e_lH (v := .sc _) rfl w_ rfl) (g_e rfl (e_faQ pl2 rfl) (g_e rfl (e_lH (v := .lit _ _ _) rfl (h2_ hihj39_0) rfl) (g_e rfl (e_len rfl (by kernel_rfl)) (g_e rfl (e_sub rfl rfl (by first | omega | (simp only [lM] at *; omega))) ?_))))));refine zBd rfl rfl rfl rfl (.cons zAY (.cons zAY (.cons zAY .nil))) (zKl _ _ _) (g_e rfl (e_not rfl) (g_mS rfl rfl ?_));refine zAw (fun hb50 => ?_) (fun hb50 => ?_)
  ·have hb50T := hb50; try simp only [zz] at hb50
   iterate 6 refine gk_ ?_
   refine zAF rfl rfl rfl (zCO rfl rfl rfl (g_pT rfl rfl rfl (g_end (ds := [76, 77, 78, 79, 80, 81, 82, 83]) rfl rfl (hK49 _ ?_))));refine zAe (t := true) rfl fun K51 hK51 => ⟨fun _ => ?_, nofun⟩
   refine zAa rfl fun K52 hK52 => p_aS rfl (p_end (hK52 _ ?_));refine zAh (zAk (zAc (zAk (zAP (zAc (zAk (end1 (v := .sc _) rfl ?_)))))));exact out_i (zEE hsz hN (zCs hinv2 hd (zJM hm1 (by omega)) (by decide)))
  have hb50F := hb50; try simp only [zz] at hb50
  refine g_e rfl (e_faQ pl3 rfl) (g_e rfl (e_lH (v := .sc _) rfl w_ rfl) (g_e rfl (e_faQ pl2 rfl) (g_e rfl (e_lH (v := .lit _ _ _) rfl (h2_ hihj39_0) rfl) (g_e rfl (e_len rfl (by kernel_rfl)) (g_e rfl (e_sub rfl rfl (by first | omega | (simp only [lM] at *; omega))) (zBd rfl rfl rfl rfl (.cons zAY (.cons zAY (.cons zAY .nil))) (zKl _ _ _) (g_e rfl (e_not rfl) ?_)))))));refine g_pF rfl rfl rfl (g_end (ds := [76, 77, 78, 79, 80, 81, 82, 83]) rfl rfl (hK49 _ ?_));refine zAe rfl fun K53 hK53 => ⟨fun hb54 => ?_, fun hb54 => ?_⟩
  ·have hb54T := hb54; try simp only [zz] at hb54
   refine zAa rfl fun K55 hK55 => p_aS rfl (p_end (hK55 _ ?_));refine zAh (zAk (zAc (zAk (zAP (zAc (zAk (end1 (v := .sc _) rfl ?_)))))));exact out_i (zEE hsz hN (zCs hinv2 hd (zJM hm1 (by omega)) (by decide)))
  have hb54F := hb54; try simp only [zz] at hb54
  refine zAl (zAb (hK53 _ ?_));refine zAf ?_;have hm2 : (0 ≤ m.a ∧ m.a < (s.nodes.length : Int)) ∧ (0 ≤ m.b ∧ m.b < (s.nodes.length : Int)) := by simp only [lM] at *; omega
  obtain ⟨a, ha, _, _⟩ := zBx (xs := s.nodes) (i := m.a.toNat) (by omega);obtain ⟨b, hb, _, _⟩ := zBx (xs := s.nodes) (i := m.b.toNat) (by omega);refine zAa rfl fun K56 hK56 => p_e rfl (e_lA (cs := Scaffold.enc (s)) (n := 2) rfl (h2_ hihj39_0)) (p_e rfl (e_lA (cs := Member.enc (m)) (n := 3) rfl w_) (zBs rfl (.cons (zAx (Scaffold.pure _)) (.cons (zAx (Member.pure _)) .nil)) (GeometryC s m a b (by omega) hm2.1 hm2.2 ha hb hm1) (p_e rfl (e_not rfl) (p_end (hK56 _ ?_)))));refine zAe rfl fun K57 hK57 => ⟨fun hb58 => ?_, fun hb58 => ?_⟩
  ·have hb58T := hb58; try simp only [zz] at hb58
   refine zAa rfl fun K59 hK59 => p_aS rfl (p_end (hK59 _ ?_));refine zAh (zAk (zAc (zAk (zAP (zAc (zAk (end1 (v := .sc _) rfl ?_)))))));exact out_i (zEE hsz hN (zCs hinv2 hd (zMg hm1 hm2 (by assumption)) (by decide)))
  have hb58F := hb58; try simp only [zz] at hb58
  refine zAl (zAb (hK57 _ ?_));refine zAa rfl fun K60 hK60 => p_aS rfl (p_end (hK60 _ ?_));refine zB2 (zAE (α := Nat) [1, 5, 6] (fun (j : Nat) => [(7, .int (j))]) (fun (j : Nat) (h : Heap) (_ : Nat → Nat) => ((j) ≤ k) ∧ (∀ i, i < (j) → ∀ y, s.members[i]? = some y → mbK m y = false) ∧ (h (1, 0) = some (.rows 2 [Scaffold.enc s])) ∧ (h (6, c38 6) = some (.rows 3 [Member.enc m]))) (fun (j : Nat) => k - (j)) (0) (by exact ⟨rfl, trivial⟩) (by exact ⟨by exact Nat.zero_le _, by exact nx_0, (h2_ hihj39_0), w_⟩) fun j r61 h62 c63 hj64 => ?_);obtain ⟨hj, hin, hihj64_0, hihj64_1⟩ := hj64;try dsimp only at hj
  try dsimp only at hin
  try dsimp only at hihj64_0
  try dsimp only at hihj64_1
  show pwp _ _ (loopQ _ _ _) ⟨sets (mix _ _ _) [(7, .int j)], _, _⟩;refine zAf (zAa rfl fun K65 hK65 => p_mS rfl (p_mS rfl (p_e rfl (e_lt rfl rfl) (p_end (hK65 _ ?_)))));refine zAe rfl fun K66 hK66 => ⟨fun hb67 => ?_, fun hb67 => ?_⟩
  ·have hb67R := hb67; try simp only [zz] at hb67
   obtain ⟨y, hy, hdy, hty⟩ := zBx (xs := s.members) (i := j) (by omega);refine zAl (zAb (hK66 _ ?_));refine zAg fun K68 hK68 => zAm rfl fun K69 hK69 => zAM (g_e rfl (e_faQ pl2 rfl) (g_e rfl (e_lH (v := .lit _ _ _) rfl hihj64_0 rfl) (g_mS rfl rfl (g_e rfl (e_ixL rfl rfl) (g_e rfl (e_lB (n := 3) rfl (by first | exact zBj hy rfl)) ?_)))));refine g_e rfl (e_lA (cs := Member.enc (m)) (n := 3) rfl hihj64_1) (g_e rfl (e_aeq rfl rfl (by kernel_rfl) (eqOk_Member (y) (m)) (eqV_Member (y) (m))) (g_end (ds := []) (by kernel_rfl) rfl (hK69 _ ?_)));refine zAt rfl (fun hb70 => ?_) (fun hb70 => ?_)
   ·have hb70T := hb70; try simp only [zz] at hb70
    refine zAa rfl fun K71 hK71 => p_aS rfl (p_end (hK71 _ ?_));refine zAh (zAc (zAk (zAP (zAc (zAc (zAk (zAP ?_)))))));refine zAc (zAk (end1 (v := .sc _) rfl ?_));exact out_i (zEE hsz hN (zCs hinv2 hd (zMf hm1 hm2 (by assumption) (mb_in hy (by omega) (by assumption))) (by decide)))
   have hb70F := hb70; try simp only [zz] at hb70
   refine zAl (zAj (zAb (hK68 _ ?_)));refine zAn rfl fun K72 hK72 => p_mS rfl (p_e rfl (e_adL rfl rfl) (p_aS rfl (p_end (hK72 _ ?_))));exact zAo (j + 1) (by show _ < _; omega) ⟨rfl, rfl, rfl, trivial⟩ ⟨rfl, trivial⟩ (by exact ⟨by show _ + 1 ≤ _; omega, by exact zEo (K := mbK m) hin hy (decide_eq_false (by assumption)), hihj64_0, hihj64_1⟩)
  have hb67R := hb67; try simp only [zz] at hb67
  refine zAJ (zAK ?_);clear hK66 K66;refine zAC (zAA (zAj (zAb (hK43 _ ?_))));refine zAn rfl fun K73 hK73 => p_mS rfl (p_e rfl (e_adL rfl rfl) (p_aS rfl (p_end (hK73 _ ?_))));exact zAo (k + 1) (by show _ < _; omega) ⟨rfl, trivial⟩ ⟨rfl, trivial⟩ (by exact ⟨by show _ + 1 ≤ _; simp only [lM] at *; omega, by exact zKz hinv2 hd (zMh hm1 hm2 (by assumption) (mb_nin hin (by omega))), hihj64_0⟩)
 have hb42R := hb42; try simp only [zz] at hb42
 have hM := zIN hinv2 (by simp only [lM] at *; omega);refine zAJ (zAK ?_);clear hK41 K41;refine zAC (zAA (zAb (hK35 _ ?_)));refine zAa rfl fun K74 hK74 => p_aS rfl (p_end (hK74 _ ?_));refine zAh (end1 (v := .sc _) rfl ?_);exact out_i (zEE hsz hN hM.symm)
end Go.Proofs.YtnbcmoaofmkjhaaGreatDoor.E7
