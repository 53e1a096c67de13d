import Derived.Test.YtjmjiegplnfiiaaCrwA
/- The error of a scaffold, as the reference tells it. No conditions. -/
set_option linter.unusedSimpArgs false
set_option linter.unusedVariables false
set_option maxRecDepth 100000
namespace Go.Proofs.Ytjmjiegplnfiiaa
open Go Go.Pv
/-! ### The first error of a list -/
def frsF {α : Type} (E : Nat → α → Int) : Nat → List α → Int
 | _, [] => 0
 | k, x :: l => if E k x ≠ 0 then E k x else frsF E (k + 1) l
section
variable {α : Type} {E : Nat → α → Int} {R : Int} {xs : List α} {k : Nat} {x : α}
theorem frs_go (h : R = frsF E k (xs.drop k)) (hd : xs.drop k = x :: xs.drop (k + 1)) (h0 : E k x = 0) : R = frsF E (k + 1) (xs.drop (k + 1)) := by
 rw [h, hd, frsF, if_neg (fun q => q h0)]
theorem frs_hit (h : R = frsF E k (xs.drop k)) (hd : xs.drop k = x :: xs.drop (k + 1)) {e : Int} (h0 : E k x = e) (h1 : e ≠ 0) : e = R := by
 rw [h, hd, frsF, if_pos (by rw [h0]; exact h1), h0]
theorem frs_end (h : R = frsF E k (xs.drop k)) (hk : xs.length ≤ k) : R = 0 := by rw [h, List.drop_eq_nil_of_le hk, frsF]
theorem frs_all : ∀ (l : List α) (k : Nat), frsF E k l = 0 → ∀ i y, l[i]? = some y → E (k + i) y = 0
 | [], _, _, _, _, hy => by simp at hy
 | x :: l, k, h, i, y, hy => by
   rw [frsF] at h
   by_cases h1 : E k x = 0
   · rw [if_neg (fun q => q h1)] at h
     match i, hy with
     | 0, hy => simp at hy; subst hy; exact h1
     | i + 1, hy =>
       have := frs_all l (k + 1) h i y (by simpa using hy)
       rw [show k + (i + 1) = k + 1 + i by omega]; exact this
   · rw [if_pos h1] at h; exact absurd h h1
end

/-! ### Scaffolds -/
def cordB (z : Int) : Bool := decide (-1000000 ≤ z ∧ z ≤ 1000000)
def spcB (n : Node) : Bool := cordB n.px && (cordB n.py && cordB n.pz)
def ndK (n m : Node) : Bool := decide (m = n)
def mbK (m x : Member) : Bool := decide (x = m)
def nodE (ns : List Node) (k : Nat) (n : Node) : Int := if spcB n = false then 2 else if n ∈ ns.take k then 5 else 0
def geo2 (ns : List Node) (a b : Node) (m : Member) : Bool :=
 if m.kind = 0 ∨ m.kind = 7 then decide (a.px = b.px ∧ a.py = b.py ∧ a.pz < b.pz)
 else if m.kind = 3 then decide (a.pz < b.pz ∧ ¬ (a.px = b.px ∧ a.py = b.py))
 else if m.kind = 6 then decide (a.pz = b.pz ∧ a.px < b.px ∧ a.py < b.py ∧ 0 ≤ ixA (ndK ⟨b.px, a.py, a.pz⟩) ns ∧ 0 ≤ ixA (ndK ⟨a.px, b.py, a.pz⟩) ns)
 else if m.kind = 8 ∨ m.kind = 9 then decide (m.a = m.b)
 else decide (a.pz = b.pz ∧ (a.px < b.px ∧ a.py = b.py ∨ a.px = b.px ∧ a.py < b.py))
def geoB (ns : List Node) (m : Member) : Bool := geo2 ns (ns.getD m.a.toNat default) (ns.getD m.b.toNat default) m
def memE (s : Scaffold) (k : Nat) (m : Member) : Int :=
 if ¬ (0 ≤ m.kind ∧ m.kind ≤ 9) then 2
 else if ¬ ((0 ≤ m.a ∧ m.a < (s.nodes.length : Int)) ∧ (0 ≤ m.b ∧ m.b < (s.nodes.length : Int))) then 6
 else if geoB s.nodes m = false then 3
 else if m ∈ s.members.take k then 5 else 0
def scfE (s : Scaffold) : Int :=
 if 1000 < s.nodes.length ∨ 4000 < s.members.length then 8
 else if frsF (nodE s.nodes) 0 s.nodes ≠ 0 then frsF (nodE s.nodes) 0 s.nodes else frsF (memE s) 0 s.members
section
variable {s : Scaffold} {ns : List Node} {n : Node} {m x : Member} {k : Nat}
theorem spc_1 (h : cordB n.px = false) : spcB n = false := by rw [spcB, h]; rfl
theorem spc_2 (h : cordB n.py = false) : spcB n = false := by rw [spcB, h]; simp
theorem spc_3 (h : cordB n.pz = false) : spcB n = false := by rw [spcB, h]; simp
theorem spc_t (h1 : cordB n.px = true) (h2 : cordB n.py = true) (h3 : cordB n.pz = true) : spcB n = true := by rw [spcB, h1, h2, h3]; rfl
theorem spc_b (h : spcB n = true) : (-1000000 ≤ n.px ∧ n.px ≤ 1000000) ∧ (-1000000 ≤ n.py ∧ n.py ≤ 1000000) ∧ (-1000000 ≤ n.pz ∧ n.pz ≤ 1000000) := by
 simpa [spcB, cordB] using h
theorem nodE_2 (h : spcB n = false) : nodE ns k n = 2 := if_pos h
theorem nodE_5 (h : spcB n = true) (h2 : n ∈ ns.take k) : nodE ns k n = 5 := by
 rw [nodE, if_neg (by rw [h]; decide), if_pos h2]
theorem nodE_0 (h : spcB n = true) (h2 : n ∉ ns.take k) : nodE ns k n = 0 := by
 rw [nodE, if_neg (by rw [h]; decide), if_neg h2]
theorem ixK_take {α : Type} [DecidableEq α] {l : List α} {a : α} {k : Nat} (hx : l[k]? = some a) : ixA (fun y => decide (y = a)) l ≠ (k : Int) ↔ a ∈ l.take k := by
 have hk := (List.getElem?_eq_some_iff.1 hx).1
 constructor
 · intro h
   refine Classical.byContradiction fun h2 => h ((ixA_hit (K := fun y => decide (y = a)) hx (fun i hi y hy => decide_eq_false fun e => h2 ?_) (decide_eq_true rfl)).symm)
   subst e
   exact List.mem_of_getElem? (i := i) (by rw [List.getElem?_take, if_pos hi]; exact hy)
 · intro h e
   obtain ⟨i, hi⟩ := List.getElem?_of_mem h
   rw [List.getElem?_take] at hi
   split at hi
   · rename_i h3
     unfold ixA at e
     cases q : l.findIdx? (fun y => decide (y = a)) with
     | none => rw [q] at e; exact absurd (show (-1 : Int) = (k : Int) from e) (by omega)
     | some j =>
       rw [q] at e
       simp only [Int.ofNat_inj] at e
       subst e
       rw [List.findIdx?_eq_some_iff_getElem] at q
       have := q.2.2 i h3
       obtain ⟨g1, g2⟩ := List.getElem?_eq_some_iff.1 hi
       rw [g2] at this
       simp at this
   · cases hi
theorem ndK_take (hx : ns[k]? = some n) : ixA (ndK n) ns ≠ (k : Int) ↔ n ∈ ns.take k := ixK_take hx
theorem ndK_mem : 0 ≤ ixA (ndK n) ns ↔ n ∈ ns := by
 have h := ixA_any (K := ndK n) (l := ns)
 rw [Bool.eq_iff_iff, decide_eq_true_eq, List.any_eq_true] at h
 rw [h]
 constructor
 · rintro ⟨y, hy, e⟩
   have : y = n := of_decide_eq_true e
   exact this ▸ hy
 · intro h2; exact ⟨n, h2, decide_eq_true rfl⟩
theorem geoB_at {a b : Node} (ha : ns[m.a.toNat]? = some a) (hb : ns[m.b.toNat]? = some b) : geoB ns m = geo2 ns a b m := by
 rw [geoB, List.getD_eq_getElem?_getD, List.getD_eq_getElem?_getD, ha, hb]; rfl
theorem memE_2 (h : ¬ (0 ≤ m.kind ∧ m.kind ≤ 9)) : memE s k m = 2 := if_pos h
theorem memE_6 (h : 0 ≤ m.kind ∧ m.kind ≤ 9) (h2 : ¬ ((0 ≤ m.a ∧ m.a < (s.nodes.length : Int)) ∧ (0 ≤ m.b ∧ m.b < (s.nodes.length : Int)))) : memE s k m = 6 := by
 rw [memE, if_neg (fun q => q h), if_pos h2]
theorem memE_3 (h : 0 ≤ m.kind ∧ m.kind ≤ 9) (h2 : (0 ≤ m.a ∧ m.a < (s.nodes.length : Int)) ∧ (0 ≤ m.b ∧ m.b < (s.nodes.length : Int))) (h3 : geoB s.nodes m = false) : memE s k m = 3 := by
 rw [memE, if_neg (fun q => q h), if_neg (fun q => q h2), if_pos h3]
theorem memE_5 (h : 0 ≤ m.kind ∧ m.kind ≤ 9) (h2 : (0 ≤ m.a ∧ m.a < (s.nodes.length : Int)) ∧ (0 ≤ m.b ∧ m.b < (s.nodes.length : Int))) (h3 : geoB s.nodes m = true) (h4 : m ∈ s.members.take k) : memE s k m = 5 := by
 rw [memE, if_neg (fun q => q h), if_neg (fun q => q h2), if_neg (by rw [h3]; decide), if_pos h4]
theorem memE_0 (h : 0 ≤ m.kind ∧ m.kind ≤ 9) (h2 : (0 ≤ m.a ∧ m.a < (s.nodes.length : Int)) ∧ (0 ≤ m.b ∧ m.b < (s.nodes.length : Int))) (h3 : geoB s.nodes m = true) (h4 : m ∉ s.members.take k) : memE s k m = 0 := by
 rw [memE, if_neg (fun q => q h), if_neg (fun q => q h2), if_neg (by rw [h3]; decide), if_neg h4]
theorem mb_in {j : Nat} (hy : s.members[j]? = some x) (hj : j < k) (h : x = m) : m ∈ s.members.take k := by
 subst h
 exact List.mem_of_getElem? (i := j) (by rw [List.getElem?_take, if_pos hj]; exact hy)
theorem mb_nin {j : Nat} (h : ∀ i, i < j → ∀ y, s.members[i]? = some y → mbK m y = false) (hj : k ≤ j) : m ∉ s.members.take k := fun h2 => by
 obtain ⟨i, hi⟩ := List.getElem?_of_mem h2
 rw [List.getElem?_take] at hi
 split at hi
 · have := h i (by omega) m hi
   simp [mbK] at this
 · cases hi
theorem scfE_8 (h : 1000 < s.nodes.length ∨ 4000 < s.members.length) : 8 = scfE s := (if_pos h).symm
theorem scfE_n {e : Int} (h : ¬ (1000 < s.nodes.length ∨ 4000 < s.members.length)) (h2 : e = frsF (nodE s.nodes) 0 s.nodes) (h3 : e ≠ 0) : e = scfE s := by
 rw [scfE, if_neg h, if_pos (by rw [← h2]; exact h3), h2]
theorem scfE_m {e : Int} (h : ¬ (1000 < s.nodes.length ∨ 4000 < s.members.length)) (h2 : frsF (nodE s.nodes) 0 s.nodes = 0) (h3 : e = frsF (memE s) 0 s.members) : e = scfE s := by
 rw [scfE, if_neg h, if_neg (fun q => q h2), h3]
end
theorem eqOk_Node (a b : Node) : eqOk Try.prog 6 144 (.agg a.enc) (.agg b.enc) = true := by kernel_rfl
theorem eqV_Node (a b : Node) : eqV Try.prog 6 144 (.agg a.enc) (.agg b.enc) = decide (a = b) := by
 have h : eqV Try.prog 6 144 (.agg a.enc) (.agg b.enc) = ((a.px == b.px) && ((a.py == b.py) && ((a.pz == b.pz) && true))) := by kernel_rfl
 rw [h]
 cases a; cases b
 simp only [Node.mk.injEq]
 rw [Bool.eq_iff_iff]
 simp
theorem eqOk_Member (a b : Member) : eqOk Try.prog 6 146 (.agg a.enc) (.agg b.enc) = true := by kernel_rfl
theorem eqV_Member (a b : Member) : eqV Try.prog 6 146 (.agg a.enc) (.agg b.enc) = decide (a = b) := by
 have h : eqV Try.prog 6 146 (.agg a.enc) (.agg b.enc) = ((a.kind == b.kind) && ((a.a == b.a) && ((a.b == b.b) && true))) := by kernel_rfl
 rw [h]
 cases a; cases b
 simp only [Member.mk.injEq]
 rw [Bool.eq_iff_iff]
 simp

theorem fr103 : (inFrame Try.f103.ntmps (Try.f103.body.getD .skip) && Try.f103.results.toList.all (resScope Try.f103.ntmps)) = true := by kernel_rfl
theorem coordC (z : Int) : PCalls Try.prog 103 [.int z] (.bool (cordB z)) := by
 refine PCalls.of_code Try.func103 rfl rfl (by kernel_rfl) mixed fr103 (by show _ ≤ 5; simp) (.sc _) (pwp_seq_plain rfl fun K1 hK1 => p_aS rfl (p_end (hK1 _ ?_))); clear hK1 K1
 refine pwp_seq_plain rfl fun K2 hK2 => p_mS rfl (p_call rfl (.cons inn_sc (.cons inn_sc (.cons inn_sc .nil))) (Within _ _ _) (p_aS rfl (p_end (hK2 _ ?_)))); clear hK2 K2
 refine pwp_ret (end1 (v := .sc _) rfl ?_)
 exact out_b rfl

theorem fr104 : (inFrame Try.f104.ntmps (Try.f104.body.getD .skip) && Try.f104.results.toList.all (resScope Try.f104.ntmps)) = true := by kernel_rfl
theorem NodeAtC (s : Scaffold) (n : Node) (hlen : s.nodes.length ≤ 1000000) : PCalls Try.prog 104 [.agg s.enc, .agg n.enc] (.int (ixA (ndK n) s.nodes)) := by
 refine PCalls.of_code Try.func104 rfl rfl (by kernel_rfl) mixed fr104 (by show _ ≤ 21; simp) (.sc _) (pwp_seq_plain rfl fun K1 hK1 => p_new rfl (e_box (n := 2) rfl rfl) ⟨rfl, by decide⟩ (p_new rfl (e_box (n := 3) rfl rfl) ⟨rfl, by decide⟩ (p_aS rfl (p_end (hK1 _ ?_))))); clear hK1 K1
 refine pwp_seq_seq (pwp_seq_plain rfl fun K2 hK2 => p_aS rfl (p_end (hK2 _ ?_))); clear hK2 K2
 refine pwp_seq_block fun K3 hK3 => pwp_loopR (α := Nat) [2, 3] (fun (k : Nat) => [(5, .int (k))]) (fun (k : Nat) (h : Heap) (_ : Nat → Nat) => ((k) ≤ s.nodes.length) ∧ (∀ i, i < (k) → ∀ y, s.nodes[i]? = some y → ndK n y = false) ∧ (h (2, 0) = some (.rows 2 [Scaffold.enc s])) ∧ (h (3, 0) = some (.rows 3 [Node.enc n]))) (fun (k : Nat) => s.nodes.length - (k)) (0) (by exact ⟨rfl, trivial⟩) (by exact ⟨by exact Nat.zero_le _, by exact nx_0, ((hset_ne (key_ne rfl)).trans (hset_self _ _ _)), (hset_self _ _ _)⟩) fun k r4 h5 c6 hj7 => ?_
 obtain ⟨hk, hin, hihj7_0, hihj7_1⟩ := hj7
 try dsimp only at hk
 try dsimp only at hin
 try dsimp only at hihj7_0
 try dsimp only at hihj7_1
 show pwp _ _ (loopQ _ _ _) ⟨sets (mix _ _ _) [(5, .int k)], _, _⟩
 refine pwp_seq_seq (pwp_seq_plain rfl fun K8 hK8 => p_mS rfl (p_e rfl (e_faQ pl2 rfl) (p_e rfl (e_lH (v := .lit _ _ _) rfl hihj7_0 rfl) (p_e rfl (e_len rfl (by kernel_rfl)) (p_e rfl (e_lt rfl rfl) (p_end (hK8 _ ?_))))))); clear hK8 K8
 refine pwp_seq_cond rfl fun K9 hK9 => ⟨fun hb10 => ?_, fun hb10 => ?_⟩
 ·have hb10R := hb10; try simp only [zz] at hb10
  obtain ⟨x, hx, hd, ht⟩ := get_lt (xs := s.nodes) (i := k) (by omega)
  refine pwp_skip (seq_norm (hK9 _ ?_)); clear hK9 K9
  refine pwp_seq_block fun K11 hK11 => pwp_seq_gops rfl fun K12 hK12 => g_begin (g_e rfl (e_faQ pl2 rfl) (g_e rfl (e_lH (v := .lit _ _ _) rfl hihj7_0 rfl) (g_mS rfl rfl (g_e rfl (e_ixL rfl rfl) (g_e rfl (e_loadA (n := 3) rfl (by kernel_rfl) (by kernel_rfl) (by kernel_rfl) (by first | omega | (simp only [List.length_map]; omega)) (by decide) (by first | exact agg_map hx rfl)) ?_)))))
  refine g_e rfl (e_loadHA (cs := Node.enc (n)) (n := 3) rfl hihj7_1 (by kernel_rfl) (by kernel_rfl) (by kernel_rfl) (by exact Nat.zero_lt_one) (by decide) rfl) (g_e rfl (e_aeq rfl rfl (by kernel_rfl) (eqOk_Node (x) (n)) (eqV_Node (x) (n))) (g_end (ds := []) (by kernel_rfl) rfl (hK12 _ ?_))); clear hK12 K12
  refine pwp_cond rfl (fun hb13 => ?_) (fun hb13 => ?_)
  ·have hb13R := hb13; try simp only [zz] at hb13
   refine pwp_seq_plain rfl fun K14 hK14 => p_mS rfl (p_aS rfl (p_end (hK14 _ ?_))); clear hK14 K14
   refine pwp_ret (ret_block (ret_seq (ret_loop (ret_block (ret_seq (end1 (v := .sc _) rfl ?_))))))
   first
     | exact out_i (ixA_hit (K := ndK n) hx hin (decide_eq_true (by assumption)))
     | exact out_i (ixA_no (K := ndK n) hin (by simp only [List.length_map] at *; omega))
  ·have hb13R := hb13; try simp only [zz] at hb13
   refine pwp_skip (block_norm (seq_norm (hK11 _ ?_))); clear hK11 K11
   refine pwp_plain rfl fun K15 hK15 => p_mS rfl (p_e rfl (e_adL rfl rfl) (p_aS rfl (p_end (hK15 _ ?_)))); clear hK15 K15
   exact loop_again (k + 1) (by show _ < _; omega) ⟨rfl, rfl, trivial⟩ ⟨rfl, trivial⟩ (by exact ⟨by show _ + 1 ≤ _; simp only [List.length_map] at *; omega, by exact nx_step (K := ndK n) hin hx (decide_eq_false (by assumption)), hihj7_0, hihj7_1⟩)
 ·have hb10R := hb10; try simp only [zz] at hb10
  refine pwp_exit (exit_seq ?_)
  clear hK9 K9
  refine exit_loop (exit_here (seq_norm (hK3 _ ?_))); clear hK3 K3
  refine pwp_seq_plain rfl fun K16 hK16 => p_aS rfl (p_end (hK16 _ ?_)); clear hK16 K16
  refine pwp_ret (end1 (v := .sc _) rfl ?_)
  first
    | exact out_i (ixA_hit (K := ndK n) hx hin (decide_eq_true (by assumption)))
    | exact out_i (ixA_no (K := ndK n) hin (by simp only [List.length_map] at *; omega))

theorem fr124 : (inFrame Try.f124.ntmps (Try.f124.body.getD .skip) && Try.f124.results.toList.all (resScope Try.f124.ntmps)) = true := by kernel_rfl
theorem CornersC (s : Scaffold) (m : Member) (a b : Node) (hlen : s.nodes.length ≤ 1000000) (hma : 0 ≤ m.a ∧ m.a < (s.nodes.length : Int)) (hmb : 0 ≤ m.b ∧ m.b < (s.nodes.length : Int)) (ha : s.nodes[m.a.toNat]? = some a) (hb : s.nodes[m.b.toNat]? = some b) : PCalls Try.prog 124 [.agg s.enc, .agg m.enc] (.agg [.int m.a, .int (ixA (ndK (⟨b.px, a.py, a.pz⟩ : Node)) s.nodes), .int m.b, .int (ixA (ndK (⟨a.px, b.py, a.pz⟩ : Node)) s.nodes)]) := by
 refine PCalls.of_code Try.func124 rfl rfl (by kernel_rfl) mixed fr124 (by show _ ≤ 42; simp) (.agg _ fun p hp => by simp only [List.mem_cons, List.not_mem_nil, or_false] at hp; rcases hp with rfl | rfl | rfl | rfl <;> exact .sc _) (pwp_seq_plain rfl fun K1 hK1 => p_new rfl (e_box (n := 2) rfl rfl) ⟨rfl, by decide⟩ (p_new rfl (e_box (n := 3) rfl rfl) ⟨rfl, by decide⟩ (p_new rfl (e_alloc (cs := [.int 0, .int 0, .int 0, .int 0]) (n := 4) (by kernel_rfl) rfl (by decide)) (ob_alloc (by decide)) (p_end (hK1 _ ?_))))); clear hK1 K1
 refine pwp_seq_gops rfl fun K2 hK2 => s_begin (s_e rfl (e_faQ pl2 rfl) (s_step [2] (by simp) rfl rfl rfl rfl (e_lH (v := .lit _ _ _) rfl ((hset_ne (key_ne rfl)).trans ((hset_ne (key_ne rfl)).trans (hset_self _ _ _))) rfl) trivial (s_e rfl (e_faQ pl3 rfl) (s_step [3] (by simp) rfl rfl rfl rfl (e_lH (v := .sc _) rfl ((hset_ne (key_ne rfl)).trans (hset_self _ _ _)) rfl) trivial (s_e rfl (e_ixL rfl rfl) (s_e rfl (e_loadA (n := 3) rfl (by kernel_rfl) (by kernel_rfl) (by kernel_rfl) (by first | omega | (simp only [List.length_map]; omega)) (by decide) (by first | exact agg_map ha rfl)) ?_))))))
 refine s_e rfl (e_faQ pl2 rfl) (s_step [2] (by simp) rfl rfl rfl rfl (e_lH (v := .lit _ _ _) rfl ((hset_ne (key_ne rfl)).trans ((hset_ne (key_ne rfl)).trans (hset_self _ _ _))) rfl) trivial (s_e rfl (e_faQ pl3 rfl) (s_step [3] (by simp) rfl rfl rfl rfl (e_lH (v := .sc _) rfl ((hset_ne (key_ne rfl)).trans (hset_self _ _ _)) rfl) trivial (s_e rfl (e_ixL rfl rfl) (s_e rfl (e_loadA (n := 3) rfl (by kernel_rfl) (by kernel_rfl) (by kernel_rfl) (by first | omega | (simp only [List.length_map]; omega)) (by decide) (by first | exact agg_map hb rfl)) (s_new [] (by simp) rfl rfl rfl rfl (e_alloc (cs := [.int 0, .int 0, .int 0]) (n := 3) (by kernel_rfl) rfl (by decide)) (ob_alloc (by decide)) (s_new [] (by simp) rfl rfl rfl rfl (e_alloc (cs := [.int 0, .int 0, .int 0]) (n := 3) (by kernel_rfl) rfl (by decide)) (ob_alloc (by decide)) ?_)))))))
 refine s_store [5] (by simp) rfl rfl (e_storeA rfl ((hset_ne (key_ne rfl)).trans (hset_self _ _ _)) rfl rfl rfl (by kernel_rfl) rfl (by kernel_rfl)) trivial (s_store [6] (by simp) rfl rfl (e_storeA rfl ((hset_ne (key_ne rfl)).trans (hset_self _ _ _)) rfl rfl rfl (by kernel_rfl) rfl (by kernel_rfl)) trivial (s_end (ds := []) (by kernel_rfl) (by kernel_rfl) (hK2 _ ?_))); clear hK2 K2
 refine pwp_seq_gops rfl fun K3 hK3 => s_begin (s_e rfl (e_faQ pl3 rfl) (s_step [3] (by simp) rfl rfl rfl rfl (e_lH (v := .sc _) rfl ((hset_ne (key_ne rfl)).trans ((hset_ne (key_ne rfl)).trans ((hset_ne (key_ne rfl)).trans ((hset_ne (key_ne rfl)).trans ((hset_ne (key_ne rfl)).trans (hset_self _ _ _)))))) rfl) trivial (s_step [2] (by simp) rfl rfl rfl rfl (e_loadHA (cs := Scaffold.enc (s)) (n := 2) rfl ((hset_ne (key_ne rfl)).trans ((hset_ne (key_ne rfl)).trans ((hset_ne (key_ne rfl)).trans ((hset_ne (key_ne rfl)).trans ((hset_ne (key_ne rfl)).trans ((hset_ne (key_ne rfl)).trans (hset_self _ _ _))))))) (by kernel_rfl) (by kernel_rfl) (by kernel_rfl) (by exact Nat.zero_lt_one) (by decide) rfl) trivial (s_e rfl (e_faQ pl3 rfl) (s_step [6] (by simp) rfl rfl rfl rfl (e_lH (v := .sc _) rfl (hset_self _ _ _) rfl) trivial (s_e rfl (e_faQ pl3 rfl) ?_))))))
 refine s_step [5] (by simp) rfl rfl rfl rfl (e_lH (v := .sc _) rfl ((hset_ne (key_ne rfl)).trans (hset_self _ _ _)) rfl) trivial (s_e rfl (e_faQ pl3 rfl) (s_step [5] (by simp) rfl rfl rfl rfl (e_lH (v := .sc _) rfl ((hset_ne (key_ne rfl)).trans (hset_self _ _ _)) rfl) trivial (s_e rfl (e_build (cs := Node.enc (⟨b.px, a.py, a.pz⟩ : Node)) (zs := [.int 0, .int 0, .int 0]) (pl := [(0, 1, false), (1, 1, false), (2, 1, false)]) (by kernel_rfl) (by kernel_rfl) (by kernel_rfl) rfl rfl (by exact ⟨by decide, rfl, Nat.le_of_ble_eq_true rfl, rfl, ⟨by decide, rfl, Nat.le_of_ble_eq_true rfl, rfl, ⟨by decide, rfl, Nat.le_of_ble_eq_true rfl, rfl, trivial⟩⟩⟩) rfl) (s_call (args := [.agg _, .agg _]) [] (by intro k hk; simp [keysOf, Go.Pv.keyOf, Node.enc, Scaffold.enc] at hk; try (subst hk; simp)) rfl rfl rfl rfl (.cons (inn_agg (Scaffold.pure _)) (.cons (inn_agg (Node.pure _)) .nil)) (NodeAtC _ _ (by omega)) (s_e rfl (e_faQ pl3 rfl) (s_step [3] (by simp) rfl rfl rfl rfl (e_lH (v := .sc _) rfl ((hset_ne (key_ne rfl)).trans ((hset_ne (key_ne rfl)).trans ((hset_ne (key_ne rfl)).trans ((hset_ne (key_ne rfl)).trans ((hset_ne (key_ne rfl)).trans (hset_self _ _ _)))))) rfl) trivial (s_step [2] (by simp) rfl rfl rfl rfl (e_loadHA (cs := Scaffold.enc (s)) (n := 2) rfl ((hset_ne (key_ne rfl)).trans ((hset_ne (key_ne rfl)).trans ((hset_ne (key_ne rfl)).trans ((hset_ne (key_ne rfl)).trans ((hset_ne (key_ne rfl)).trans ((hset_ne (key_ne rfl)).trans (hset_self _ _ _))))))) (by kernel_rfl) (by kernel_rfl) (by kernel_rfl) (by exact Nat.zero_lt_one) (by decide) rfl) trivial ?_)))))))
 refine s_e rfl (e_faQ pl3 rfl) (s_step [5] (by simp) rfl rfl rfl rfl (e_lH (v := .sc _) rfl ((hset_ne (key_ne rfl)).trans (hset_self _ _ _)) rfl) trivial (s_e rfl (e_faQ pl3 rfl) (s_step [6] (by simp) rfl rfl rfl rfl (e_lH (v := .sc _) rfl (hset_self _ _ _) rfl) trivial (s_e rfl (e_faQ pl3 rfl) (s_step [5] (by simp) rfl rfl rfl rfl (e_lH (v := .sc _) rfl ((hset_ne (key_ne rfl)).trans (hset_self _ _ _)) rfl) trivial (s_e rfl (e_build (cs := Node.enc (⟨a.px, b.py, a.pz⟩ : Node)) (zs := [.int 0, .int 0, .int 0]) (pl := [(0, 1, false), (1, 1, false), (2, 1, false)]) (by kernel_rfl) (by kernel_rfl) (by kernel_rfl) rfl rfl (by exact ⟨by decide, rfl, Nat.le_of_ble_eq_true rfl, rfl, ⟨by decide, rfl, Nat.le_of_ble_eq_true rfl, rfl, ⟨by decide, rfl, Nat.le_of_ble_eq_true rfl, rfl, trivial⟩⟩⟩) rfl) (s_call (args := [.agg _, .agg _]) [] (by intro k hk; simp [keysOf, Go.Pv.keyOf, Node.enc, Scaffold.enc] at hk; try (subst hk; simp)) rfl rfl rfl rfl (.cons (inn_agg (Scaffold.pure _)) (.cons (inn_agg (Node.pure _)) .nil)) (NodeAtC _ _ (by omega)) ?_)))))))
 refine s_e rfl (e_buildA (zs := [.int 0, .int 0, .int 0, .int 0]) (pl := [(0, 1, false), (1, 1, false), (2, 1, false), (3, 1, false)]) (by kernel_rfl) (by kernel_rfl) (by kernel_rfl) rfl rfl (by exact ⟨by decide, rfl, Nat.le_of_ble_eq_true rfl, rfl, ⟨by decide, rfl, Nat.le_of_ble_eq_true rfl, rfl, ⟨by decide, rfl, Nat.le_of_ble_eq_true rfl, rfl, ⟨by decide, rfl, Nat.le_of_ble_eq_true rfl, rfl, trivial⟩⟩⟩⟩) rfl) (s_store [4] (by simp) rfl rfl (e_storeA rfl ((hset_ne (key_ne rfl)).trans ((hset_ne (key_ne rfl)).trans ((hset_ne (key_ne rfl)).trans ((hset_ne (key_ne rfl)).trans (hset_self _ _ _))))) rfl rfl rfl (by kernel_rfl) rfl (by kernel_rfl)) trivial (s_end (ds := []) (by kernel_rfl) (by kernel_rfl) (hK3 _ ?_))); clear hK3 K3
 refine pwp_ret (endC rfl (hset_self _ _ _) (by kernel_rfl) (by kernel_rfl) (by kernel_rfl) rfl ?_)
 exact (show Out _ (.agg [.int m.a, .int (ixA (ndK (⟨b.px, a.py, a.pz⟩ : Node)) s.nodes), .int m.b, .int (ixA (ndK (⟨a.px, b.py, a.pz⟩ : Node)) s.nodes)]) (.agg [.int m.a, .int (ixA (ndK (⟨b.px, a.py, a.pz⟩ : Node)) s.nodes), .int m.b, .int (ixA (ndK (⟨a.px, b.py, a.pz⟩ : Node)) s.nodes)]) from out_agg rfl fun p hp => by simp only [List.mem_cons, List.not_mem_nil, or_false] at hp; rcases hp with rfl | rfl | rfl | rfl <;> exact .sc _)

theorem fr105 : (inFrame Try.f105.ntmps (Try.f105.body.getD .skip) && Try.f105.results.toList.all (resScope Try.f105.ntmps)) = true := by kernel_rfl
theorem GeometryC (s : Scaffold) (m : Member) (a b : Node) (hlen : s.nodes.length ≤ 1000000) (hma : 0 ≤ m.a ∧ m.a < (s.nodes.length : Int)) (hmb : 0 ≤ m.b ∧ m.b < (s.nodes.length : Int)) (ha : s.nodes[m.a.toNat]? = some a) (hb : s.nodes[m.b.toNat]? = some b) (hmk : 0 ≤ m.kind ∧ m.kind ≤ 9) : PCalls Try.prog 105 [.agg s.enc, .agg m.enc] (.bool (geoB s.nodes m)) := by
 refine PCalls.of_code Try.func105 rfl rfl (by kernel_rfl) mixed fr105 (by show _ ≤ 132; simp) (.sc _) (pwp_seq_plain rfl fun K1 hK1 => p_new rfl (e_box (n := 2) rfl rfl) ⟨rfl, by decide⟩ (p_new rfl (e_box (n := 3) rfl rfl) ⟨rfl, by decide⟩ (p_aS rfl (p_end (hK1 _ ?_))))); clear hK1 K1
 refine pwp_seq_gops rfl fun K2 hK2 => s_begin (s_e rfl (e_faQ pl2 rfl) (s_step [2] (by simp) rfl rfl rfl rfl (e_lH (v := .lit _ _ _) rfl ((hset_ne (key_ne rfl)).trans (hset_self _ _ _)) rfl) trivial (s_e rfl (e_faQ pl3 rfl) (s_step [3] (by simp) rfl rfl rfl rfl (e_lH (v := .sc _) rfl (hset_self _ _ _) rfl) trivial (s_e rfl (e_ixL rfl rfl) (s_e rfl (e_loadA (n := 3) rfl (by kernel_rfl) (by kernel_rfl) (by kernel_rfl) (by first | omega | (simp only [List.length_map]; omega)) (by decide) (by first | exact agg_map ha rfl)) ?_))))))
 refine s_e rfl (e_faQ pl2 rfl) (s_step [2] (by simp) rfl rfl rfl rfl (e_lH (v := .lit _ _ _) rfl ((hset_ne (key_ne rfl)).trans (hset_self _ _ _)) rfl) trivial (s_e rfl (e_faQ pl3 rfl) (s_step [3] (by simp) rfl rfl rfl rfl (e_lH (v := .sc _) rfl (hset_self _ _ _) rfl) trivial (s_e rfl (e_ixL rfl rfl) (s_e rfl (e_loadA (n := 3) rfl (by kernel_rfl) (by kernel_rfl) (by kernel_rfl) (by first | omega | (simp only [List.length_map]; omega)) (by decide) (by first | exact agg_map hb rfl)) (s_new [] (by simp) rfl rfl rfl rfl (e_alloc (cs := [.int 0, .int 0, .int 0]) (n := 3) (by kernel_rfl) rfl (by decide)) (ob_alloc (by decide)) (s_new [] (by simp) rfl rfl rfl rfl (e_alloc (cs := [.int 0, .int 0, .int 0]) (n := 3) (by kernel_rfl) rfl (by decide)) (ob_alloc (by decide)) ?_)))))))
 refine s_store [5] (by simp) rfl rfl (e_storeA rfl ((hset_ne (key_ne rfl)).trans (hset_self _ _ _)) rfl rfl rfl (by kernel_rfl) rfl (by kernel_rfl)) trivial (s_store [6] (by simp) rfl rfl (e_storeA rfl ((hset_ne (key_ne rfl)).trans (hset_self _ _ _)) rfl rfl rfl (by kernel_rfl) rfl (by kernel_rfl)) trivial (s_end (ds := []) (by kernel_rfl) (by kernel_rfl) (hK2 _ ?_))); clear hK2 K2
 refine pwp_seq_cutG [2, 3, 5, 6] [(7, .bool (((decide (a.px = b.px)) && (decide (a.py = b.py))) && (decide (a.pz < b.pz))))] (fun K3 hK3 => ?_) (fun r4 => ?_)
 ·skip
  refine pwp_gops rfl fun K5 hK5 => g_begin (g_e rfl (e_faQ pl3 rfl) (g_e rfl (e_lH (v := .sc _) rfl ((hset_ne (key_ne rfl)).trans (hset_self _ _ _)) rfl) (g_e rfl (e_faQ pl3 rfl) (g_e rfl (e_lH (v := .sc _) rfl (hset_self _ _ _) rfl) (g_e rfl (e_eq rfl rfl) (g_mS rfl rfl ?_))))))
  refine g_cases (fun hb6 => ?_) (fun hb6 => ?_)
  ·have hb6R := hb6; try simp only [zz] at hb6
   refine g_e rfl (e_faQ pl3 rfl) (g_e rfl (e_lH (v := .sc _) rfl ((hset_ne (key_ne rfl)).trans (hset_self _ _ _)) rfl) (g_e rfl (e_faQ pl3 rfl) (g_e rfl (e_lH (v := .sc _) rfl (hset_self _ _ _) rfl) (g_e rfl (e_eq rfl rfl) (g_pT rfl rfl rfl (g_mS rfl rfl ?_))))))
   refine g_cases (fun hb7 => ?_) (fun hb7 => ?_)
   ·have hb7R := hb7; try simp only [zz] at hb7
    refine g_e rfl (e_faQ pl3 rfl) (g_e rfl (e_lH (v := .sc _) rfl ((hset_ne (key_ne rfl)).trans (hset_self _ _ _)) rfl) (g_e rfl (e_faQ pl3 rfl) (g_e rfl (e_lH (v := .sc _) rfl (hset_self _ _ _) rfl) (g_e rfl (e_lt rfl rfl) (g_pT rfl rfl rfl (g_aS rfl rfl (g_end (ds := [27, 28, 29, 30, 31, 34, 35, 36, 37, 38]) rfl rfl (hK5 _ ?_)))))))); clear hK5 K5
    exact seq_norm (hK3 _ ⟨rfl, rfl, rfl, rfl, trivial⟩ ⟨(congrArg PV.bool (show ((decide (a.pz < b.pz)) : Bool) = (((decide (a.px = b.px)) && (decide (a.py = b.py))) && (decide (a.pz < b.pz))) by first | rfl | ((try rw [hb7R]) <;> (try rw [hb6R]) <;> (first | rfl | (simp only [Bool.and_true, Bool.and_false, Bool.true_and, Bool.false_and, Bool.or_true, Bool.or_false, Bool.true_or, Bool.false_or, Bool.not_true, Bool.not_false, if_true, if_false, Bool.false_eq_true, reduceIte] <;> rfl))) | (simp only [hb6R, hb7R, Bool.and_true, Bool.and_false, Bool.true_and, Bool.false_and, Bool.or_true, Bool.or_false, Bool.true_or, Bool.false_or, Bool.not_true, Bool.not_false, if_true, if_false, Bool.false_eq_true, reduceIte] <;> rfl))), trivial⟩)
   ·have hb7R := hb7; try simp only [zz] at hb7
    iterate 5 refine g_skip rfl rfl rfl ?_
    refine g_pF rfl rfl rfl (g_aS rfl rfl (g_end (ds := [27, 28, 29, 30, 31, 34, 35, 36, 37, 38]) rfl rfl (hK5 _ ?_))); clear hK5 K5
    exact seq_norm (hK3 _ ⟨rfl, rfl, rfl, rfl, trivial⟩ ⟨(congrArg PV.bool (show (false : Bool) = (((decide (a.px = b.px)) && (decide (a.py = b.py))) && (decide (a.pz < b.pz))) by first | rfl | ((try rw [hb7R]) <;> (try rw [hb6R]) <;> (first | rfl | (simp only [Bool.and_true, Bool.and_false, Bool.true_and, Bool.false_and, Bool.or_true, Bool.or_false, Bool.true_or, Bool.false_or, Bool.not_true, Bool.not_false, if_true, if_false, Bool.false_eq_true, reduceIte] <;> rfl))) | (simp only [hb6R, hb7R, Bool.and_true, Bool.and_false, Bool.true_and, Bool.false_and, Bool.or_true, Bool.or_false, Bool.true_or, Bool.false_or, Bool.not_true, Bool.not_false, if_true, if_false, Bool.false_eq_true, reduceIte] <;> rfl))), trivial⟩)
  ·have hb6R := hb6; try simp only [zz] at hb6
   iterate 5 refine g_skip rfl rfl rfl ?_
   refine g_pF rfl rfl rfl (g_mS rfl rfl ?_)
   iterate 5 refine g_skip rfl rfl rfl ?_
   refine g_pF rfl rfl rfl (g_aS rfl rfl (g_end (ds := [27, 28, 29, 30, 31, 34, 35, 36, 37, 38]) rfl rfl (hK5 _ ?_))); clear hK5 K5
   exact seq_norm (hK3 _ ⟨rfl, rfl, rfl, rfl, trivial⟩ ⟨(congrArg PV.bool (show (false : Bool) = (((decide (a.px = b.px)) && (decide (a.py = b.py))) && (decide (a.pz < b.pz))) by first | rfl | ((try rw [hb6R]) <;> (first | rfl | (simp only [Bool.and_true, Bool.and_false, Bool.true_and, Bool.false_and, Bool.or_true, Bool.or_false, Bool.true_or, Bool.false_or, Bool.not_true, Bool.not_false, if_true, if_false, Bool.false_eq_true, reduceIte] <;> rfl))) | (simp only [hb6R, Bool.and_true, Bool.and_false, Bool.true_and, Bool.false_and, Bool.or_true, Bool.or_false, Bool.true_or, Bool.false_or, Bool.not_true, Bool.not_false, if_true, if_false, Bool.false_eq_true, reduceIte] <;> rfl))), trivial⟩)
 ·skip
  refine pwp_seq_seq (pwp_seq_plain rfl fun K8 hK8 => p_e rfl (e_faQ pl3 rfl) (p_e rfl (e_lH (v := .sc _) rfl ((hset_ne (key_ne rfl)).trans ((hset_ne (key_ne rfl)).trans ((hset_ne (key_ne rfl)).trans ((hset_ne (key_ne rfl)).trans (hset_self _ _ _))))) rfl) (p_end (hK8 _ ?_)))); clear hK8 K8
  refine pwp_seq_block fun K9 hK9 => pwp_seq_seq (pwp_seq_plain rfl fun K10 hK10 => p_e rfl (e_eq rfl rfl) (p_aS rfl (p_end (hK10 _ ?_)))); clear hK10 K10
  refine pwp_seq_cutG [2, 3, 5, 6, 7, 41] [(42, .bool (if (decide (m.kind = (0))) = true then (decide (m.kind = (0))) else (decide (m.kind = (7)))))] (fun K11 hK11 => ?_) (fun r12 => ?_)
  ·skip
   refine pwp_cond rfl (fun hb13 => ?_) (fun hb13 => ?_)
   ·have hb13R := hb13; try simp only [zz] at hb13
    refine pwp_skip ?_
    exact seq_norm (hK11 _ ⟨rfl, rfl, rfl, rfl, rfl, rfl, trivial⟩ ⟨(congrArg PV.bool (show ((decide (m.kind = (0))) : Bool) = (if (decide (m.kind = (0))) = true then (decide (m.kind = (0))) else (decide (m.kind = (7)))) by first | rfl | ((try rw [hb13R]) <;> (first | rfl | (simp only [Bool.and_true, Bool.and_false, Bool.true_and, Bool.false_and, Bool.or_true, Bool.or_false, Bool.true_or, Bool.false_or, Bool.not_true, Bool.not_false, if_true, if_false, Bool.false_eq_true, reduceIte] <;> rfl))) | (simp only [hb13R, Bool.and_true, Bool.and_false, Bool.true_and, Bool.false_and, Bool.or_true, Bool.or_false, Bool.true_or, Bool.false_or, Bool.not_true, Bool.not_false, if_true, if_false, Bool.false_eq_true, reduceIte] <;> rfl))), trivial⟩)
   ·have hb13R := hb13; try simp only [zz] at hb13
    refine pwp_plain rfl fun K14 hK14 => p_e rfl (e_eq rfl rfl) (p_aS rfl (p_end (hK14 _ ?_))); clear hK14 K14
    exact seq_norm (hK11 _ ⟨rfl, rfl, rfl, rfl, rfl, rfl, trivial⟩ ⟨(congrArg PV.bool (show ((decide (m.kind = (7))) : Bool) = (if (decide (m.kind = (0))) = true then (decide (m.kind = (0))) else (decide (m.kind = (7)))) by first | rfl | ((try rw [hb13R]) <;> (first | rfl | (simp only [Bool.and_true, Bool.and_false, Bool.true_and, Bool.false_and, Bool.or_true, Bool.or_false, Bool.true_or, Bool.false_or, Bool.not_true, Bool.not_false, if_true, if_false, Bool.false_eq_true, reduceIte] <;> rfl))) | (simp only [hb13R, Bool.and_true, Bool.and_false, Bool.true_and, Bool.false_and, Bool.or_true, Bool.or_false, Bool.true_or, Bool.false_or, Bool.not_true, Bool.not_false, if_true, if_false, Bool.false_eq_true, reduceIte] <;> rfl))), trivial⟩)
  ·skip
   refine pwp_cond rfl (fun hb15 => ?_) (fun hb15 => ?_)
   ·have hb15R := hb15; try simp only [zz] at hb15
    refine pwp_seq_plain rfl fun K16 hK16 => p_mS rfl (p_aS rfl (p_end (hK16 _ ?_))); clear hK16 K16
    refine pwp_ret (ret_block (ret_seq (end1 (v := .sc _) rfl (out_b ?_))))
    rw [geoB_at ha hb]
    clear ha hb
    rcases (by omega : m.kind = 0 ∨ m.kind = 1 ∨ m.kind = 2 ∨ m.kind = 3 ∨ m.kind = 4 ∨ m.kind = 5 ∨ m.kind = 6 ∨ m.kind = 7 ∨ m.kind = 8 ∨ m.kind = 9) with q | q | q | q | q | q | q | q | q | q <;> simp_all [geo2] <;> first | omega | (rw [Bool.eq_iff_iff]; simp; omega)
   ·have hb15R := hb15; try simp only [zz] at hb15
    refine pwp_seq_plain rfl fun K17 hK17 => p_e rfl (e_eq rfl rfl) (p_aS rfl (p_end (hK17 _ ?_))); clear hK17 K17
    refine pwp_cond rfl (fun hb18 => ?_) (fun hb18 => ?_)
    ·have hb18R := hb18; try simp only [zz] at hb18
     refine pwp_seq_cutG [] [(4, .bool ((decide (a.pz < b.pz)) && (!(((decide (a.px = b.px)) && (decide (a.py = b.py))) && (decide (a.pz < b.pz))))))] (fun K19 hK19 => ?_) (fun r20 => ?_)
     ·skip
      refine pwp_gops rfl fun K21 hK21 => g_begin (g_e rfl (e_faQ pl3 rfl) (g_e rfl (e_lH (v := .sc _) rfl ((hset_ne (key_ne rfl)).trans (hset_self _ _ _)) rfl) (g_e rfl (e_faQ pl3 rfl) (g_e rfl (e_lH (v := .sc _) rfl (hset_self _ _ _) rfl) (g_e rfl (e_lt rfl rfl) (g_mS rfl rfl ?_))))))
      refine g_cases (fun hb22 => ?_) (fun hb22 => ?_)
      ·have hb22R := hb22; try simp only [zz] at hb22
       refine g_mS rfl rfl (g_e rfl (e_not rfl) (g_pT rfl rfl rfl (g_aS rfl rfl (g_end (ds := [54, 55]) rfl rfl (hK21 _ ?_))))); clear hK21 K21
       exact seq_norm (hK19 _ trivial ⟨(congrArg PV.bool (show ((!(((decide (a.px = b.px)) && (decide (a.py = b.py))) && (decide (a.pz < b.pz)))) : Bool) = ((decide (a.pz < b.pz)) && (!(((decide (a.px = b.px)) && (decide (a.py = b.py))) && (decide (a.pz < b.pz))))) by first | rfl | ((try rw [hb22R]) <;> (first | rfl | (simp only [Bool.and_true, Bool.and_false, Bool.true_and, Bool.false_and, Bool.or_true, Bool.or_false, Bool.true_or, Bool.false_or, Bool.not_true, Bool.not_false, if_true, if_false, Bool.false_eq_true, reduceIte] <;> rfl))) | (simp only [hb22R, Bool.and_true, Bool.and_false, Bool.true_and, Bool.false_and, Bool.or_true, Bool.or_false, Bool.true_or, Bool.false_or, Bool.not_true, Bool.not_false, if_true, if_false, Bool.false_eq_true, reduceIte] <;> rfl))), trivial⟩)
      ·have hb22R := hb22; try simp only [zz] at hb22
       iterate 2 refine g_skip rfl rfl rfl ?_
       refine g_pF rfl rfl rfl (g_aS rfl rfl (g_end (ds := [54, 55]) rfl rfl (hK21 _ ?_))); clear hK21 K21
       exact seq_norm (hK19 _ trivial ⟨(congrArg PV.bool (show (false : Bool) = ((decide (a.pz < b.pz)) && (!(((decide (a.px = b.px)) && (decide (a.py = b.py))) && (decide (a.pz < b.pz))))) by first | rfl | ((try rw [hb22R]) <;> (first | rfl | (simp only [Bool.and_true, Bool.and_false, Bool.true_and, Bool.false_and, Bool.or_true, Bool.or_false, Bool.true_or, Bool.false_or, Bool.not_true, Bool.not_false, if_true, if_false, Bool.false_eq_true, reduceIte] <;> rfl))) | (simp only [hb22R, Bool.and_true, Bool.and_false, Bool.true_and, Bool.false_and, Bool.or_true, Bool.or_false, Bool.true_or, Bool.false_or, Bool.not_true, Bool.not_false, if_true, if_false, Bool.false_eq_true, reduceIte] <;> rfl))), trivial⟩)
     ·skip
      refine pwp_ret (ret_block (ret_seq (end1 (v := .sc _) rfl (out_b ?_))))
      rw [geoB_at ha hb]
      clear ha hb
      rcases (by omega : m.kind = 0 ∨ m.kind = 1 ∨ m.kind = 2 ∨ m.kind = 3 ∨ m.kind = 4 ∨ m.kind = 5 ∨ m.kind = 6 ∨ m.kind = 7 ∨ m.kind = 8 ∨ m.kind = 9) with q | q | q | q | q | q | q | q | q | q <;> simp_all [geo2] <;> first | omega | (rw [Bool.eq_iff_iff]; simp; omega)
    ·have hb18R := hb18; try simp only [zz] at hb18
     refine pwp_seq_plain rfl fun K23 hK23 => p_e rfl (e_eq rfl rfl) (p_aS rfl (p_end (hK23 _ ?_))); clear hK23 K23
     refine pwp_cond rfl (fun hb24 => ?_) (fun hb24 => ?_)
     ·have hb24R := hb24; try simp only [zz] at hb24
      refine pwp_seq_plain rfl fun K25 hK25 => p_e rfl (e_loadHA (cs := Scaffold.enc (s)) (n := 2) rfl ((hset_ne (key_ne rfl)).trans ((hset_ne (key_ne rfl)).trans ((hset_ne (key_ne rfl)).trans ((hset_ne (key_ne rfl)).trans ((hset_ne (key_ne rfl)).trans (hset_self _ _ _)))))) (by kernel_rfl) (by kernel_rfl) (by kernel_rfl) (by exact Nat.zero_lt_one) (by decide) rfl) (p_e rfl (e_loadHA (cs := Member.enc (m)) (n := 3) rfl ((hset_ne (key_ne rfl)).trans ((hset_ne (key_ne rfl)).trans ((hset_ne (key_ne rfl)).trans ((hset_ne (key_ne rfl)).trans (hset_self _ _ _))))) (by kernel_rfl) (by kernel_rfl) (by kernel_rfl) (by exact Nat.zero_lt_one) (by decide) rfl) (p_call rfl (.cons (inn_agg (Scaffold.pure _)) (.cons (inn_agg (Member.pure _)) .nil)) (CornersC s m a b hlen hma hmb ha hb) (p_new rfl (e_alloc (cs := [.int 0, .int 0, .int 0, .int 0]) (n := 4) (by kernel_rfl) rfl (by decide)) (ob_alloc (by decide)) (p_store rfl (e_storeA rfl (hset_self _ _ _) rfl rfl rfl (by kernel_rfl) rfl (by kernel_rfl)) trivial (p_end (hK25 _ ?_)))))); clear hK25 K25
      refine pwp_seq_cutG [] [(4, .bool (((((decide (a.pz = b.pz)) && (decide (a.px < b.px))) && (decide (a.py < b.py))) && (decide ((0) ≤ (ixA (ndK (⟨b.px, a.py, a.pz⟩ : Node)) s.nodes)))) && (decide ((0) ≤ (ixA (ndK (⟨a.px, b.py, a.pz⟩ : Node)) s.nodes)))))] (fun K26 hK26 => ?_) (fun r27 => ?_)
      ·skip
       refine pwp_gops rfl fun K28 hK28 => g_begin (g_e rfl (e_faQ pl3 rfl) (g_e rfl (e_lH (v := .sc _) rfl ((hset_ne (key_ne rfl)).trans ((hset_ne (key_ne rfl)).trans ((hset_ne (key_ne rfl)).trans (hset_self _ _ _)))) rfl) (g_e rfl (e_faQ pl3 rfl) (g_e rfl (e_lH (v := .sc _) rfl ((hset_ne (key_ne rfl)).trans ((hset_ne (key_ne rfl)).trans (hset_self _ _ _))) rfl) (g_e rfl (e_eq rfl rfl) (g_mS rfl rfl ?_))))))
       refine g_cases (fun hb29 => ?_) (fun hb29 => ?_)
       ·have hb29R := hb29; try simp only [zz] at hb29
        refine g_e rfl (e_faQ pl3 rfl) (g_e rfl (e_lH (v := .sc _) rfl ((hset_ne (key_ne rfl)).trans ((hset_ne (key_ne rfl)).trans ((hset_ne (key_ne rfl)).trans (hset_self _ _ _)))) rfl) (g_e rfl (e_faQ pl3 rfl) (g_e rfl (e_lH (v := .sc _) rfl ((hset_ne (key_ne rfl)).trans ((hset_ne (key_ne rfl)).trans (hset_self _ _ _))) rfl) (g_e rfl (e_lt rfl rfl) (g_pT rfl rfl rfl (g_mS rfl rfl ?_))))))
        refine g_cases (fun hb30 => ?_) (fun hb30 => ?_)
        ·have hb30R := hb30; try simp only [zz] at hb30
         refine g_e rfl (e_faQ pl3 rfl) (g_e rfl (e_lH (v := .sc _) rfl ((hset_ne (key_ne rfl)).trans ((hset_ne (key_ne rfl)).trans ((hset_ne (key_ne rfl)).trans (hset_self _ _ _)))) rfl) (g_e rfl (e_faQ pl3 rfl) (g_e rfl (e_lH (v := .sc _) rfl ((hset_ne (key_ne rfl)).trans ((hset_ne (key_ne rfl)).trans (hset_self _ _ _))) rfl) (g_e rfl (e_lt rfl rfl) (g_pT rfl rfl rfl (g_mS rfl rfl ?_))))))
         refine g_cases (fun hb31 => ?_) (fun hb31 => ?_)
         ·have hb31R := hb31; try simp only [zz] at hb31
          refine g_e rfl (e_ixaP (n := 4) (e := 3) rfl rfl (by kernel_rfl) (by kernel_rfl) (by omega)) (g_e rfl (e_lH (v := .sc _) rfl (hset_self _ _ _) rfl) (g_e rfl (e_ge rfl rfl) (g_pT rfl rfl rfl (g_mS rfl rfl ?_))))
          refine g_cases (fun hb32 => ?_) (fun hb32 => ?_)
          ·have hb32R := hb32; try simp only [zz] at hb32
           refine g_e rfl (e_ixaP (n := 4) (e := 3) rfl rfl (by kernel_rfl) (by kernel_rfl) (by omega)) (g_e rfl (e_lH (v := .sc _) rfl (hset_self _ _ _) rfl) (g_e rfl (e_ge rfl rfl) (g_pT rfl rfl rfl (g_aS rfl rfl (g_end (ds := [68, 69, 70, 71, 72, 75, 76, 77, 78, 79, 82, 83, 84, 87, 88, 89]) rfl rfl (hK28 _ ?_)))))); clear hK28 K28
           exact seq_norm (hK26 _ trivial ⟨(congrArg PV.bool (show ((decide ((0) ≤ (ixA (ndK (⟨a.px, b.py, a.pz⟩ : Node)) s.nodes))) : Bool) = (((((decide (a.pz = b.pz)) && (decide (a.px < b.px))) && (decide (a.py < b.py))) && (decide ((0) ≤ (ixA (ndK (⟨b.px, a.py, a.pz⟩ : Node)) s.nodes)))) && (decide ((0) ≤ (ixA (ndK (⟨a.px, b.py, a.pz⟩ : Node)) s.nodes)))) by first | rfl | ((try rw [hb32R]) <;> (try rw [hb31R]) <;> (try rw [hb30R]) <;> (try rw [hb29R]) <;> (first | rfl | (simp only [Bool.and_true, Bool.and_false, Bool.true_and, Bool.false_and, Bool.or_true, Bool.or_false, Bool.true_or, Bool.false_or, Bool.not_true, Bool.not_false, if_true, if_false, Bool.false_eq_true, reduceIte] <;> rfl))) | (simp only [hb29R, hb30R, hb31R, hb32R, Bool.and_true, Bool.and_false, Bool.true_and, Bool.false_and, Bool.or_true, Bool.or_false, Bool.true_or, Bool.false_or, Bool.not_true, Bool.not_false, if_true, if_false, Bool.false_eq_true, reduceIte] <;> rfl))), trivial⟩)
          ·have hb32R := hb32; try simp only [zz] at hb32
           iterate 3 refine g_skip rfl rfl rfl ?_
           refine g_pF rfl rfl rfl (g_aS rfl rfl (g_end (ds := [68, 69, 70, 71, 72, 75, 76, 77, 78, 79, 82, 83, 84, 87, 88, 89]) rfl rfl (hK28 _ ?_))); clear hK28 K28
           exact seq_norm (hK26 _ trivial ⟨(congrArg PV.bool (show (false : Bool) = (((((decide (a.pz = b.pz)) && (decide (a.px < b.px))) && (decide (a.py < b.py))) && (decide ((0) ≤ (ixA (ndK (⟨b.px, a.py, a.pz⟩ : Node)) s.nodes)))) && (decide ((0) ≤ (ixA (ndK (⟨a.px, b.py, a.pz⟩ : Node)) s.nodes)))) by first | rfl | ((try rw [hb32R]) <;> (try rw [hb31R]) <;> (try rw [hb30R]) <;> (try rw [hb29R]) <;> (first | rfl | (simp only [Bool.and_true, Bool.and_false, Bool.true_and, Bool.false_and, Bool.or_true, Bool.or_false, Bool.true_or, Bool.false_or, Bool.not_true, Bool.not_false, if_true, if_false, Bool.false_eq_true, reduceIte] <;> rfl))) | (simp only [hb29R, hb30R, hb31R, hb32R, Bool.and_true, Bool.and_false, Bool.true_and, Bool.false_and, Bool.or_true, Bool.or_false, Bool.true_or, Bool.false_or, Bool.not_true, Bool.not_false, if_true, if_false, Bool.false_eq_true, reduceIte] <;> rfl))), trivial⟩)
         ·have hb31R := hb31; try simp only [zz] at hb31
          iterate 3 refine g_skip rfl rfl rfl ?_
          refine g_pF rfl rfl rfl (g_mS rfl rfl ?_)
          iterate 3 refine g_skip rfl rfl rfl ?_
          refine g_pF rfl rfl rfl (g_aS rfl rfl (g_end (ds := [68, 69, 70, 71, 72, 75, 76, 77, 78, 79, 82, 83, 84, 87, 88, 89]) rfl rfl (hK28 _ ?_))); clear hK28 K28
          exact seq_norm (hK26 _ trivial ⟨(congrArg PV.bool (show (false : Bool) = (((((decide (a.pz = b.pz)) && (decide (a.px < b.px))) && (decide (a.py < b.py))) && (decide ((0) ≤ (ixA (ndK (⟨b.px, a.py, a.pz⟩ : Node)) s.nodes)))) && (decide ((0) ≤ (ixA (ndK (⟨a.px, b.py, a.pz⟩ : Node)) s.nodes)))) by first | rfl | ((try rw [hb31R]) <;> (try rw [hb30R]) <;> (try rw [hb29R]) <;> (first | rfl | (simp only [Bool.and_true, Bool.and_false, Bool.true_and, Bool.false_and, Bool.or_true, Bool.or_false, Bool.true_or, Bool.false_or, Bool.not_true, Bool.not_false, if_true, if_false, Bool.false_eq_true, reduceIte] <;> rfl))) | (simp only [hb29R, hb30R, hb31R, Bool.and_true, Bool.and_false, Bool.true_and, Bool.false_and, Bool.or_true, Bool.or_false, Bool.true_or, Bool.false_or, Bool.not_true, Bool.not_false, if_true, if_false, Bool.false_eq_true, reduceIte] <;> rfl))), trivial⟩)
        ·have hb30R := hb30; try simp only [zz] at hb30
         iterate 5 refine g_skip rfl rfl rfl ?_
         refine g_pF rfl rfl rfl (g_mS rfl rfl ?_)
         iterate 3 refine g_skip rfl rfl rfl ?_
         refine g_pF rfl rfl rfl (g_mS rfl rfl ?_)
         iterate 3 refine g_skip rfl rfl rfl ?_
         refine g_pF rfl rfl rfl (g_aS rfl rfl (g_end (ds := [68, 69, 70, 71, 72, 75, 76, 77, 78, 79, 82, 83, 84, 87, 88, 89]) rfl rfl (hK28 _ ?_))); clear hK28 K28
         exact seq_norm (hK26 _ trivial ⟨(congrArg PV.bool (show (false : Bool) = (((((decide (a.pz = b.pz)) && (decide (a.px < b.px))) && (decide (a.py < b.py))) && (decide ((0) ≤ (ixA (ndK (⟨b.px, a.py, a.pz⟩ : Node)) s.nodes)))) && (decide ((0) ≤ (ixA (ndK (⟨a.px, b.py, a.pz⟩ : Node)) s.nodes)))) by first | rfl | ((try rw [hb30R]) <;> (try rw [hb29R]) <;> (first | rfl | (simp only [Bool.and_true, Bool.and_false, Bool.true_and, Bool.false_and, Bool.or_true, Bool.or_false, Bool.true_or, Bool.false_or, Bool.not_true, Bool.not_false, if_true, if_false, Bool.false_eq_true, reduceIte] <;> rfl))) | (simp only [hb29R, hb30R, Bool.and_true, Bool.and_false, Bool.true_and, Bool.false_and, Bool.or_true, Bool.or_false, Bool.true_or, Bool.false_or, Bool.not_true, Bool.not_false, if_true, if_false, Bool.false_eq_true, reduceIte] <;> rfl))), trivial⟩)
       ·have hb29R := hb29; try simp only [zz] at hb29
        iterate 5 refine g_skip rfl rfl rfl ?_
        refine g_pF rfl rfl rfl (g_mS rfl rfl ?_)
        iterate 5 refine g_skip rfl rfl rfl ?_
        refine g_pF rfl rfl rfl (g_mS rfl rfl ?_)
        iterate 3 refine g_skip rfl rfl rfl ?_
        refine g_pF rfl rfl rfl (g_mS rfl rfl ?_)
        iterate 3 refine g_skip rfl rfl rfl ?_
        refine g_pF rfl rfl rfl (g_aS rfl rfl (g_end (ds := [68, 69, 70, 71, 72, 75, 76, 77, 78, 79, 82, 83, 84, 87, 88, 89]) rfl rfl (hK28 _ ?_))); clear hK28 K28
        exact seq_norm (hK26 _ trivial ⟨(congrArg PV.bool (show (false : Bool) = (((((decide (a.pz = b.pz)) && (decide (a.px < b.px))) && (decide (a.py < b.py))) && (decide ((0) ≤ (ixA (ndK (⟨b.px, a.py, a.pz⟩ : Node)) s.nodes)))) && (decide ((0) ≤ (ixA (ndK (⟨a.px, b.py, a.pz⟩ : Node)) s.nodes)))) by first | rfl | ((try rw [hb29R]) <;> (first | rfl | (simp only [Bool.and_true, Bool.and_false, Bool.true_and, Bool.false_and, Bool.or_true, Bool.or_false, Bool.true_or, Bool.false_or, Bool.not_true, Bool.not_false, if_true, if_false, Bool.false_eq_true, reduceIte] <;> rfl))) | (simp only [hb29R, Bool.and_true, Bool.and_false, Bool.true_and, Bool.false_and, Bool.or_true, Bool.or_false, Bool.true_or, Bool.false_or, Bool.not_true, Bool.not_false, if_true, if_false, Bool.false_eq_true, reduceIte] <;> rfl))), trivial⟩)
      ·skip
       refine pwp_ret (ret_block (ret_seq (end1 (v := .sc _) rfl (out_b ?_))))
       rw [geoB_at ha hb]
       clear ha hb
       rcases (by omega : m.kind = 0 ∨ m.kind = 1 ∨ m.kind = 2 ∨ m.kind = 3 ∨ m.kind = 4 ∨ m.kind = 5 ∨ m.kind = 6 ∨ m.kind = 7 ∨ m.kind = 8 ∨ m.kind = 9) with q | q | q | q | q | q | q | q | q | q <;> simp_all [geo2] <;> first | omega | (rw [Bool.eq_iff_iff]; simp; omega)
     ·have hb24R := hb24; try simp only [zz] at hb24
      refine pwp_seq_seq (pwp_seq_plain rfl fun K33 hK33 => p_e rfl (e_eq rfl rfl) (p_aS rfl (p_end (hK33 _ ?_)))); clear hK33 K33
      refine pwp_seq_cutG [3, 5, 6] [(91, .bool (if (decide (m.kind = (8))) = true then (decide (m.kind = (8))) else (decide (m.kind = (9)))))] (fun K34 hK34 => ?_) (fun r35 => ?_)
      ·skip
       refine pwp_cond rfl (fun hb36 => ?_) (fun hb36 => ?_)
       ·have hb36R := hb36; try simp only [zz] at hb36
        refine pwp_skip ?_
        exact seq_norm (hK34 _ ⟨rfl, rfl, rfl, trivial⟩ ⟨(congrArg PV.bool (show ((decide (m.kind = (8))) : Bool) = (if (decide (m.kind = (8))) = true then (decide (m.kind = (8))) else (decide (m.kind = (9)))) by first | rfl | ((try rw [hb36R]) <;> (first | rfl | (simp only [Bool.and_true, Bool.and_false, Bool.true_and, Bool.false_and, Bool.or_true, Bool.or_false, Bool.true_or, Bool.false_or, Bool.not_true, Bool.not_false, if_true, if_false, Bool.false_eq_true, reduceIte] <;> rfl))) | (simp only [hb36R, Bool.and_true, Bool.and_false, Bool.true_and, Bool.false_and, Bool.or_true, Bool.or_false, Bool.true_or, Bool.false_or, Bool.not_true, Bool.not_false, if_true, if_false, Bool.false_eq_true, reduceIte] <;> rfl))), trivial⟩)
       ·have hb36R := hb36; try simp only [zz] at hb36
        refine pwp_plain rfl fun K37 hK37 => p_e rfl (e_eq rfl rfl) (p_aS rfl (p_end (hK37 _ ?_))); clear hK37 K37
        exact seq_norm (hK34 _ ⟨rfl, rfl, rfl, trivial⟩ ⟨(congrArg PV.bool (show ((decide (m.kind = (9))) : Bool) = (if (decide (m.kind = (8))) = true then (decide (m.kind = (8))) else (decide (m.kind = (9)))) by first | rfl | ((try rw [hb36R]) <;> (first | rfl | (simp only [Bool.and_true, Bool.and_false, Bool.true_and, Bool.false_and, Bool.or_true, Bool.or_false, Bool.true_or, Bool.false_or, Bool.not_true, Bool.not_false, if_true, if_false, Bool.false_eq_true, reduceIte] <;> rfl))) | (simp only [hb36R, Bool.and_true, Bool.and_false, Bool.true_and, Bool.false_and, Bool.or_true, Bool.or_false, Bool.true_or, Bool.false_or, Bool.not_true, Bool.not_false, if_true, if_false, Bool.false_eq_true, reduceIte] <;> rfl))), trivial⟩)
      ·skip
       refine pwp_cond rfl (fun hb38 => ?_) (fun hb38 => ?_)
       ·have hb38R := hb38; try simp only [zz] at hb38
        refine pwp_seq_plain rfl fun K39 hK39 => p_e rfl (e_faQ pl3 rfl) (p_e rfl (e_lH (v := .sc _) rfl ((hset_ne (key_ne rfl)).trans ((hset_ne (key_ne rfl)).trans ((hset_ne (key_ne rfl)).trans ((hset_ne (key_ne rfl)).trans (hset_self _ _ _))))) rfl) (p_e rfl (e_faQ pl3 rfl) (p_e rfl (e_lH (v := .sc _) rfl ((hset_ne (key_ne rfl)).trans ((hset_ne (key_ne rfl)).trans ((hset_ne (key_ne rfl)).trans ((hset_ne (key_ne rfl)).trans (hset_self _ _ _))))) rfl) (p_e rfl (e_eq rfl rfl) (p_aS rfl (p_end (hK39 _ ?_))))))); clear hK39 K39
        refine pwp_ret (ret_block (ret_seq (end1 (v := .sc _) rfl (out_b ?_))))
        rw [geoB_at ha hb]
        clear ha hb
        rcases (by omega : m.kind = 0 ∨ m.kind = 1 ∨ m.kind = 2 ∨ m.kind = 3 ∨ m.kind = 4 ∨ m.kind = 5 ∨ m.kind = 6 ∨ m.kind = 7 ∨ m.kind = 8 ∨ m.kind = 9) with q | q | q | q | q | q | q | q | q | q <;> simp_all [geo2] <;> first | omega | (rw [Bool.eq_iff_iff]; simp; omega)
       ·have hb38R := hb38; try simp only [zz] at hb38
        refine pwp_skip (block_norm (seq_norm (hK9 _ ?_))); clear hK9 K9
        refine pwp_seq_cutG [] [(4, .bool ((decide (a.pz = b.pz)) && (((decide (a.px < b.px)) && (decide (a.py = b.py))) || ((decide (a.px = b.px)) && (decide (a.py < b.py))))))] (fun K40 hK40 => ?_) (fun r41 => ?_)
        ·skip
         refine pwp_gops rfl fun K42 hK42 => g_begin (g_e rfl (e_faQ pl3 rfl) (g_e rfl (e_lH (v := .sc _) rfl ((hset_ne (key_ne rfl)).trans (hset_self _ _ _)) rfl) (g_e rfl (e_faQ pl3 rfl) (g_e rfl (e_lH (v := .sc _) rfl (hset_self _ _ _) rfl) (g_e rfl (e_eq rfl rfl) (g_mS rfl rfl ?_))))))
         refine g_cases (fun hb43 => ?_) (fun hb43 => ?_)
         ·have hb43R := hb43; try simp only [zz] at hb43
          refine g_e rfl (e_faQ pl3 rfl) (g_e rfl (e_lH (v := .sc _) rfl ((hset_ne (key_ne rfl)).trans (hset_self _ _ _)) rfl) (g_e rfl (e_faQ pl3 rfl) (g_e rfl (e_lH (v := .sc _) rfl (hset_self _ _ _) rfl) (g_e rfl (e_lt rfl rfl) (g_mS rfl rfl ?_)))))
          refine g_cases (fun hb44 => ?_) (fun hb44 => ?_)
          ·have hb44R := hb44; try simp only [zz] at hb44
           refine g_e rfl (e_faQ pl3 rfl) (g_e rfl (e_lH (v := .sc _) rfl ((hset_ne (key_ne rfl)).trans (hset_self _ _ _)) rfl) (g_e rfl (e_faQ pl3 rfl) (g_e rfl (e_lH (v := .sc _) rfl (hset_self _ _ _) rfl) (g_e rfl (e_eq rfl rfl) (g_pT rfl rfl rfl (g_mS rfl rfl ?_))))))
           refine g_cases (fun hb45 => ?_) (fun hb45 => ?_)
           ·have hb45R := hb45; try simp only [zz] at hb45
            iterate 12 refine g_skip rfl rfl rfl ?_
            refine g_pT rfl rfl rfl (g_pT rfl rfl rfl (g_aS rfl rfl (g_end (ds := [105, 106, 107, 108, 109, 110, 111, 112, 113, 114, 115, 116, 117, 118, 119, 120, 121, 122, 123, 124, 125, 126, 127, 128, 129, 130]) rfl rfl (hK42 _ ?_)))); clear hK42 K42
            exact seq_norm (hK40 _ trivial ⟨(congrArg PV.bool (show (true : Bool) = ((decide (a.pz = b.pz)) && (((decide (a.px < b.px)) && (decide (a.py = b.py))) || ((decide (a.px = b.px)) && (decide (a.py < b.py))))) by first | rfl | ((try rw [hb45R]) <;> (try rw [hb44R]) <;> (try rw [hb43R]) <;> (first | rfl | (simp only [Bool.and_true, Bool.and_false, Bool.true_and, Bool.false_and, Bool.or_true, Bool.or_false, Bool.true_or, Bool.false_or, Bool.not_true, Bool.not_false, if_true, if_false, Bool.false_eq_true, reduceIte] <;> rfl))) | (simp only [hb43R, hb44R, hb45R, Bool.and_true, Bool.and_false, Bool.true_and, Bool.false_and, Bool.or_true, Bool.or_false, Bool.true_or, Bool.false_or, Bool.not_true, Bool.not_false, if_true, if_false, Bool.false_eq_true, reduceIte] <;> rfl))), trivial⟩)
           ·have hb45R := hb45; try simp only [zz] at hb45
            refine g_e rfl (e_faQ pl3 rfl) (g_e rfl (e_lH (v := .sc _) rfl ((hset_ne (key_ne rfl)).trans (hset_self _ _ _)) rfl) (g_e rfl (e_faQ pl3 rfl) (g_e rfl (e_lH (v := .sc _) rfl (hset_self _ _ _) rfl) (g_e rfl (e_eq rfl rfl) (g_mS rfl rfl ?_)))))
            refine g_cases (fun hb46 => ?_) (fun hb46 => ?_)
            ·have hb46R := hb46; try simp only [zz] at hb46
             refine g_e rfl (e_faQ pl3 rfl) (g_e rfl (e_lH (v := .sc _) rfl ((hset_ne (key_ne rfl)).trans (hset_self _ _ _)) rfl) (g_e rfl (e_faQ pl3 rfl) (g_e rfl (e_lH (v := .sc _) rfl (hset_self _ _ _) rfl) (g_e rfl (e_lt rfl rfl) (g_pT rfl rfl rfl (g_pF rfl rfl rfl (g_pT rfl rfl rfl ?_)))))))
             refine g_aS rfl rfl (g_end (ds := [105, 106, 107, 108, 109, 110, 111, 112, 113, 114, 115, 116, 117, 118, 119, 120, 121, 122, 123, 124, 125, 126, 127, 128, 129, 130]) rfl rfl (hK42 _ ?_)); clear hK42 K42
             exact seq_norm (hK40 _ trivial ⟨(congrArg PV.bool (show ((decide (a.py < b.py)) : Bool) = ((decide (a.pz = b.pz)) && (((decide (a.px < b.px)) && (decide (a.py = b.py))) || ((decide (a.px = b.px)) && (decide (a.py < b.py))))) by first | rfl | ((try rw [hb46R]) <;> (try rw [hb45R]) <;> (try rw [hb44R]) <;> (try rw [hb43R]) <;> (first | rfl | (simp only [Bool.and_true, Bool.and_false, Bool.true_and, Bool.false_and, Bool.or_true, Bool.or_false, Bool.true_or, Bool.false_or, Bool.not_true, Bool.not_false, if_true, if_false, Bool.false_eq_true, reduceIte] <;> rfl))) | (simp only [hb43R, hb44R, hb45R, hb46R, Bool.and_true, Bool.and_false, Bool.true_and, Bool.false_and, Bool.or_true, Bool.or_false, Bool.true_or, Bool.false_or, Bool.not_true, Bool.not_false, if_true, if_false, Bool.false_eq_true, reduceIte] <;> rfl))), trivial⟩)
            ·have hb46R := hb46; try simp only [zz] at hb46
             iterate 5 refine g_skip rfl rfl rfl ?_
             refine g_pF rfl rfl rfl (g_pF rfl rfl rfl (g_pT rfl rfl rfl (g_aS rfl rfl (g_end (ds := [105, 106, 107, 108, 109, 110, 111, 112, 113, 114, 115, 116, 117, 118, 119, 120, 121, 122, 123, 124, 125, 126, 127, 128, 129, 130]) rfl rfl (hK42 _ ?_))))); clear hK42 K42
             exact seq_norm (hK40 _ trivial ⟨(congrArg PV.bool (show (false : Bool) = ((decide (a.pz = b.pz)) && (((decide (a.px < b.px)) && (decide (a.py = b.py))) || ((decide (a.px = b.px)) && (decide (a.py < b.py))))) by first | rfl | ((try rw [hb46R]) <;> (try rw [hb45R]) <;> (try rw [hb44R]) <;> (try rw [hb43R]) <;> (first | rfl | (simp only [Bool.and_true, Bool.and_false, Bool.true_and, Bool.false_and, Bool.or_true, Bool.or_false, Bool.true_or, Bool.false_or, Bool.not_true, Bool.not_false, if_true, if_false, Bool.false_eq_true, reduceIte] <;> rfl))) | (simp only [hb43R, hb44R, hb45R, hb46R, Bool.and_true, Bool.and_false, Bool.true_and, Bool.false_and, Bool.or_true, Bool.or_false, Bool.true_or, Bool.false_or, Bool.not_true, Bool.not_false, if_true, if_false, Bool.false_eq_true, reduceIte] <;> rfl))), trivial⟩)
          ·have hb44R := hb44; try simp only [zz] at hb44
           iterate 5 refine g_skip rfl rfl rfl ?_
           refine g_pF rfl rfl rfl (g_mS rfl rfl (g_e rfl (e_faQ pl3 rfl) (g_e rfl (e_lH (v := .sc _) rfl ((hset_ne (key_ne rfl)).trans (hset_self _ _ _)) rfl) (g_e rfl (e_faQ pl3 rfl) (g_e rfl (e_lH (v := .sc _) rfl (hset_self _ _ _) rfl) (g_e rfl (e_eq rfl rfl) (g_mS rfl rfl ?_)))))))
           refine g_cases (fun hb47 => ?_) (fun hb47 => ?_)
           ·have hb47R := hb47; try simp only [zz] at hb47
            refine g_e rfl (e_faQ pl3 rfl) (g_e rfl (e_lH (v := .sc _) rfl ((hset_ne (key_ne rfl)).trans (hset_self _ _ _)) rfl) (g_e rfl (e_faQ pl3 rfl) (g_e rfl (e_lH (v := .sc _) rfl (hset_self _ _ _) rfl) (g_e rfl (e_lt rfl rfl) (g_pT rfl rfl rfl (g_pF rfl rfl rfl (g_pT rfl rfl rfl ?_)))))))
            refine g_aS rfl rfl (g_end (ds := [105, 106, 107, 108, 109, 110, 111, 112, 113, 114, 115, 116, 117, 118, 119, 120, 121, 122, 123, 124, 125, 126, 127, 128, 129, 130]) rfl rfl (hK42 _ ?_)); clear hK42 K42
            exact seq_norm (hK40 _ trivial ⟨(congrArg PV.bool (show ((decide (a.py < b.py)) : Bool) = ((decide (a.pz = b.pz)) && (((decide (a.px < b.px)) && (decide (a.py = b.py))) || ((decide (a.px = b.px)) && (decide (a.py < b.py))))) by first | rfl | ((try rw [hb47R]) <;> (try rw [hb44R]) <;> (try rw [hb43R]) <;> (first | rfl | (simp only [Bool.and_true, Bool.and_false, Bool.true_and, Bool.false_and, Bool.or_true, Bool.or_false, Bool.true_or, Bool.false_or, Bool.not_true, Bool.not_false, if_true, if_false, Bool.false_eq_true, reduceIte] <;> rfl))) | (simp only [hb43R, hb44R, hb47R, Bool.and_true, Bool.and_false, Bool.true_and, Bool.false_and, Bool.or_true, Bool.or_false, Bool.true_or, Bool.false_or, Bool.not_true, Bool.not_false, if_true, if_false, Bool.false_eq_true, reduceIte] <;> rfl))), trivial⟩)
           ·have hb47R := hb47; try simp only [zz] at hb47
            iterate 5 refine g_skip rfl rfl rfl ?_
            refine g_pF rfl rfl rfl (g_pF rfl rfl rfl (g_pT rfl rfl rfl (g_aS rfl rfl (g_end (ds := [105, 106, 107, 108, 109, 110, 111, 112, 113, 114, 115, 116, 117, 118, 119, 120, 121, 122, 123, 124, 125, 126, 127, 128, 129, 130]) rfl rfl (hK42 _ ?_))))); clear hK42 K42
            exact seq_norm (hK40 _ trivial ⟨(congrArg PV.bool (show (false : Bool) = ((decide (a.pz = b.pz)) && (((decide (a.px < b.px)) && (decide (a.py = b.py))) || ((decide (a.px = b.px)) && (decide (a.py < b.py))))) by first | rfl | ((try rw [hb47R]) <;> (try rw [hb44R]) <;> (try rw [hb43R]) <;> (first | rfl | (simp only [Bool.and_true, Bool.and_false, Bool.true_and, Bool.false_and, Bool.or_true, Bool.or_false, Bool.true_or, Bool.false_or, Bool.not_true, Bool.not_false, if_true, if_false, Bool.false_eq_true, reduceIte] <;> rfl))) | (simp only [hb43R, hb44R, hb47R, Bool.and_true, Bool.and_false, Bool.true_and, Bool.false_and, Bool.or_true, Bool.or_false, Bool.true_or, Bool.false_or, Bool.not_true, Bool.not_false, if_true, if_false, Bool.false_eq_true, reduceIte] <;> rfl))), trivial⟩)
         ·have hb43R := hb43; try simp only [zz] at hb43
          iterate 26 refine g_skip rfl rfl rfl ?_
          refine g_pF rfl rfl rfl (g_aS rfl rfl (g_end (ds := [105, 106, 107, 108, 109, 110, 111, 112, 113, 114, 115, 116, 117, 118, 119, 120, 121, 122, 123, 124, 125, 126, 127, 128, 129, 130]) rfl rfl (hK42 _ ?_))); clear hK42 K42
          exact seq_norm (hK40 _ trivial ⟨(congrArg PV.bool (show (false : Bool) = ((decide (a.pz = b.pz)) && (((decide (a.px < b.px)) && (decide (a.py = b.py))) || ((decide (a.px = b.px)) && (decide (a.py < b.py))))) by first | rfl | ((try rw [hb43R]) <;> (first | rfl | (simp only [Bool.and_true, Bool.and_false, Bool.true_and, Bool.false_and, Bool.or_true, Bool.or_false, Bool.true_or, Bool.false_or, Bool.not_true, Bool.not_false, if_true, if_false, Bool.false_eq_true, reduceIte] <;> rfl))) | (simp only [hb43R, Bool.and_true, Bool.and_false, Bool.true_and, Bool.false_and, Bool.or_true, Bool.or_false, Bool.true_or, Bool.false_or, Bool.not_true, Bool.not_false, if_true, if_false, Bool.false_eq_true, reduceIte] <;> rfl))), trivial⟩)
        ·skip
         refine pwp_ret (end1 (v := .sc _) rfl (out_b ?_))
         rw [geoB_at ha hb]
         clear ha hb
         rcases (by omega : m.kind = 0 ∨ m.kind = 1 ∨ m.kind = 2 ∨ m.kind = 3 ∨ m.kind = 4 ∨ m.kind = 5 ∨ m.kind = 6 ∨ m.kind = 7 ∨ m.kind = 8 ∨ m.kind = 9) with q | q | q | q | q | q | q | q | q | q <;> simp_all [geo2] <;> first | omega | (rw [Bool.eq_iff_iff]; simp; omega)

theorem fr56 : (inFrame Try.f56.ntmps (Try.f56.body.getD .skip) && Try.f56.results.toList.all (resScope Try.f56.ntmps)) = true := by kernel_rfl
theorem refScfC (s : Scaffold) (hs1 : s.nodes.length ≤ 1000000) (hs2 : s.members.length ≤ 1000000) : PCalls Try.prog 56 [.agg s.enc] (.int (scfE s)) := by
 refine PCalls.of_code Try.func56 rfl rfl (by kernel_rfl) mixed fr56 (by show _ ≤ 101; simp) (.sc _) (pwp_seq_plain rfl fun K1 hK1 => p_new rfl (e_box (n := 2) rfl rfl) ⟨rfl, by decide⟩ (p_aS rfl (p_end (hK1 _ ?_)))); clear hK1 K1
 refine pwp_seq_seq (pwp_seq_gops rfl fun K2 hK2 => g_begin (g_e rfl (e_faQ pl2 rfl) (g_e rfl (e_lH (v := .lit _ _ _) rfl (hset_self _ _ _) rfl) (g_e rfl (e_len rfl (by kernel_rfl)) (g_e rfl (e_gt rfl rfl) (g_mS rfl rfl ?_))))))
 refine g_cases (fun hb3 => ?_) (fun hb3 => ?_)
 ·have hb3R := hb3; try simp only [zz] at hb3
  iterate 4 refine g_skip rfl rfl rfl ?_
  refine g_pT rfl rfl rfl (g_end (ds := [13, 14, 15, 16]) rfl rfl (hK2 _ ?_)); clear hK2 K2
  refine pwp_seq_cond (t := true) rfl fun K4 hK4 => ⟨fun _ => ?_, nofun⟩
  refine pwp_seq_plain rfl fun K5 hK5 => p_aS rfl (p_end (hK5 _ ?_)); clear hK5 K5
  refine pwp_ret (ret_seq (end1 (v := .sc _) rfl ?_))
  first
    | exact out_i (scfE_8 (by omega))
    | exact out_i (scfE_n hsz (frs_hit hinv hd (nodE_2 (by first | exact spc_1 (by assumption) | exact spc_2 (by assumption) | exact spc_3 (by assumption))) (by decide)) (by decide))
    | exact out_i (scfE_n hsz (frs_hit hinv hd (nodE_5 (spc_t (by assumption) (by assumption) (by assumption)) ((ndK_take hx).1 (by assumption))) (by decide)) (by decide))
    | exact out_i (scfE_m hsz hN (frs_hit hinv2 hd (memE_2 (by assumption)) (by decide)))
    | exact out_i (scfE_m hsz hN (frs_hit hinv2 hd (memE_6 hm1 (by omega)) (by decide)))
    | exact out_i (scfE_m hsz hN (frs_hit hinv2 hd (memE_3 hm1 hm2 (by assumption)) (by decide)))
    | exact out_i (scfE_m hsz hN (frs_hit hinv2 hd (memE_5 hm1 hm2 (by assumption) (mb_in hy (by omega) (by assumption))) (by decide)))
    | exact out_i (scfE_m hsz hN hM.symm)
 ·have hb3R := hb3; try simp only [zz] at hb3
  refine g_e rfl (e_faQ pl2 rfl) (g_e rfl (e_lH (v := .lit _ _ _) rfl (hset_self _ _ _) rfl) (g_e rfl (e_len rfl (by kernel_rfl)) (g_e rfl (e_gt rfl rfl) (g_pF rfl rfl rfl (g_end (ds := [13, 14, 15, 16]) rfl rfl (hK2 _ ?_)))))); clear hK2 K2
  refine pwp_seq_cond rfl fun K6 hK6 => ⟨fun hb7 => ?_, fun hb7 => ?_⟩
  ·have hb7R := hb7; try simp only [zz] at hb7
   refine pwp_seq_plain rfl fun K8 hK8 => p_aS rfl (p_end (hK8 _ ?_)); clear hK8 K8
   refine pwp_ret (ret_seq (end1 (v := .sc _) rfl ?_))
   first
     | exact out_i (scfE_8 (by omega))
     | exact out_i (scfE_n hsz (frs_hit hinv hd (nodE_2 (by first | exact spc_1 (by assumption) | exact spc_2 (by assumption) | exact spc_3 (by assumption))) (by decide)) (by decide))
     | exact out_i (scfE_n hsz (frs_hit hinv hd (nodE_5 (spc_t (by assumption) (by assumption) (by assumption)) ((ndK_take hx).1 (by assumption))) (by decide)) (by decide))
     | exact out_i (scfE_m hsz hN (frs_hit hinv2 hd (memE_2 (by assumption)) (by decide)))
     | exact out_i (scfE_m hsz hN (frs_hit hinv2 hd (memE_6 hm1 (by omega)) (by decide)))
     | exact out_i (scfE_m hsz hN (frs_hit hinv2 hd (memE_3 hm1 hm2 (by assumption)) (by decide)))
     | exact out_i (scfE_m hsz hN (frs_hit hinv2 hd (memE_5 hm1 hm2 (by assumption) (mb_in hy (by omega) (by assumption))) (by decide)))
     | exact out_i (scfE_m hsz hN hM.symm)
  ·have hb7R := hb7; try simp only [zz] at hb7
   refine pwp_skip (seq_norm (hK6 _ ?_)); clear hK6 K6
   refine pwp_seq_seq ?_
   have hsz : ¬ (1000 < s.nodes.length ∨ 4000 < s.members.length) := by simp only [List.length_map] at *; omega
   refine pwp_seq_plain rfl fun K9 hK9 => p_aS rfl (p_end (hK9 _ ?_)); clear hK9 K9
   refine pwp_seq_block fun K10 hK10 => pwp_loopR (α := Nat) [1] (fun (k : Nat) => [(3, .int (k))]) (fun (k : Nat) (h : Heap) (_ : Nat → Nat) => ((k) ≤ s.nodes.length) ∧ (frsF (nodE s.nodes) 0 s.nodes = frsF (nodE s.nodes) (k) (s.nodes.drop (k))) ∧ (h (1, 0) = some (.rows 2 [Scaffold.enc s]))) (fun (k : Nat) => s.nodes.length - (k)) (0) (by exact ⟨rfl, trivial⟩) (by exact ⟨by exact Nat.zero_le _, by exact rfl, (hset_self _ _ _)⟩) fun k r11 h12 c13 hj14 => ?_
   obtain ⟨hk, hinv, hihj14_0⟩ := hj14
   try dsimp only at hk
   try dsimp only at hinv
   try dsimp only at hihj14_0
   show pwp _ _ (loopQ _ _ _) ⟨sets (mix _ _ _) [(3, .int k)], _, _⟩
   refine pwp_seq_seq (pwp_seq_plain rfl fun K15 hK15 => p_mS rfl (p_e rfl (e_faQ pl2 rfl) (p_e rfl (e_lH (v := .lit _ _ _) rfl hihj14_0 rfl) (p_e rfl (e_len rfl (by kernel_rfl)) (p_e rfl (e_lt rfl rfl) (p_end (hK15 _ ?_))))))); clear hK15 K15
   refine pwp_seq_cond rfl fun K16 hK16 => ⟨fun hb17 => ?_, fun hb17 => ?_⟩
   ·have hb17R := hb17; try simp only [zz] at hb17
    obtain ⟨n, hx, hd, ht⟩ := get_lt (xs := s.nodes) (i := k) (by omega)
    refine pwp_skip (seq_norm (hK16 _ ?_)); clear hK16 K16
    refine pwp_seq_block fun K18 hK18 => pwp_seq_plain rfl fun K19 hK19 => p_e rfl (e_faQ pl2 rfl) (p_e rfl (e_lH (v := .lit _ _ _) rfl hihj14_0 rfl) (p_mS rfl (p_e rfl (e_ixL rfl rfl) (p_e rfl (e_loadA (n := 3) rfl (by kernel_rfl) (by kernel_rfl) (by kernel_rfl) (by first | omega | (simp only [List.length_map]; omega)) (by decide) (by first | exact agg_map hx rfl)) (p_new rfl (e_alloc (cs := [.int 0, .int 0, .int 0]) (n := 3) (by kernel_rfl) rfl (by decide)) (ob_alloc (by decide)) ?_)))))
    refine p_store rfl (e_storeA rfl (hset_self _ _ _) rfl rfl rfl (by kernel_rfl) rfl (by kernel_rfl)) trivial (p_end (hK19 _ ?_)); clear hK19 K19
    refine pwp_seq_seq (pwp_seq_gops rfl fun K20 hK20 => g_begin (g_e rfl (e_faQ pl3 rfl) (g_e rfl (e_lH (v := .sc _) rfl (hset_self _ _ _) rfl) (g_call rfl rfl rfl rfl (.cons inn_sc .nil) (coordC _) (g_e rfl (e_not rfl) (g_mS rfl rfl ?_))))))
    refine g_cases (fun hb21 => ?_) (fun hb21 => ?_)
    ·have hb21R := hb21; try simp only [zz] at hb21
     iterate 2 refine g_skip rfl rfl rfl ?_
     refine g_nocall rfl rfl rfl (g_skip rfl rfl rfl (g_pT rfl rfl rfl (g_mS rfl rfl ?_)))
     iterate 2 refine g_skip rfl rfl rfl ?_
     refine g_nocall rfl rfl rfl (g_skip rfl rfl rfl (g_pT rfl rfl rfl (g_end (ds := [35, 36, 37, 38, 41, 42, 43, 44]) rfl rfl (hK20 _ ?_)))); clear hK20 K20
     refine pwp_seq_cond (t := true) rfl fun K22 hK22 => ⟨fun _ => ?_, nofun⟩
     refine pwp_seq_plain rfl fun K23 hK23 => p_aS rfl (p_end (hK23 _ ?_)); clear hK23 K23
     refine pwp_ret (ret_seq (ret_block (ret_seq (ret_loop (ret_block (ret_seq (end1 (v := .sc _) rfl ?_)))))))
     first
       | exact out_i (scfE_8 (by omega))
       | exact out_i (scfE_n hsz (frs_hit hinv hd (nodE_2 (by first | exact spc_1 (by assumption) | exact spc_2 (by assumption) | exact spc_3 (by assumption))) (by decide)) (by decide))
       | exact out_i (scfE_n hsz (frs_hit hinv hd (nodE_5 (spc_t (by assumption) (by assumption) (by assumption)) ((ndK_take hx).1 (by assumption))) (by decide)) (by decide))
       | exact out_i (scfE_m hsz hN (frs_hit hinv2 hd (memE_2 (by assumption)) (by decide)))
       | exact out_i (scfE_m hsz hN (frs_hit hinv2 hd (memE_6 hm1 (by omega)) (by decide)))
       | exact out_i (scfE_m hsz hN (frs_hit hinv2 hd (memE_3 hm1 hm2 (by assumption)) (by decide)))
       | exact out_i (scfE_m hsz hN (frs_hit hinv2 hd (memE_5 hm1 hm2 (by assumption) (mb_in hy (by omega) (by assumption))) (by decide)))
       | exact out_i (scfE_m hsz hN hM.symm)
    ·have hb21R := hb21; try simp only [zz] at hb21
     refine g_e rfl (e_faQ pl3 rfl) (g_e rfl (e_lH (v := .sc _) rfl (hset_self _ _ _) rfl) (g_call rfl rfl rfl rfl (.cons inn_sc .nil) (coordC _) (g_e rfl (e_not rfl) (g_pF rfl rfl rfl (g_mS rfl rfl ?_)))))
     refine g_cases (fun hb24 => ?_) (fun hb24 => ?_)
     ·have hb24R := hb24; try simp only [zz] at hb24
      iterate 2 refine g_skip rfl rfl rfl ?_
      refine g_nocall rfl rfl rfl (g_skip rfl rfl rfl (g_pT rfl rfl rfl (g_end (ds := [35, 36, 37, 38, 41, 42, 43, 44]) rfl rfl (hK20 _ ?_)))); clear hK20 K20
      refine pwp_seq_cond (t := true) rfl fun K25 hK25 => ⟨fun _ => ?_, nofun⟩
      refine pwp_seq_plain rfl fun K26 hK26 => p_aS rfl (p_end (hK26 _ ?_)); clear hK26 K26
      refine pwp_ret (ret_seq (ret_block (ret_seq (ret_loop (ret_block (ret_seq (end1 (v := .sc _) rfl ?_)))))))
      first
        | exact out_i (scfE_8 (by omega))
        | exact out_i (scfE_n hsz (frs_hit hinv hd (nodE_2 (by first | exact spc_1 (by assumption) | exact spc_2 (by assumption) | exact spc_3 (by assumption))) (by decide)) (by decide))
        | exact out_i (scfE_n hsz (frs_hit hinv hd (nodE_5 (spc_t (by assumption) (by assumption) (by assumption)) ((ndK_take hx).1 (by assumption))) (by decide)) (by decide))
        | exact out_i (scfE_m hsz hN (frs_hit hinv2 hd (memE_2 (by assumption)) (by decide)))
        | exact out_i (scfE_m hsz hN (frs_hit hinv2 hd (memE_6 hm1 (by omega)) (by decide)))
        | exact out_i (scfE_m hsz hN (frs_hit hinv2 hd (memE_3 hm1 hm2 (by assumption)) (by decide)))
        | exact out_i (scfE_m hsz hN (frs_hit hinv2 hd (memE_5 hm1 hm2 (by assumption) (mb_in hy (by omega) (by assumption))) (by decide)))
        | exact out_i (scfE_m hsz hN hM.symm)
     ·have hb24R := hb24; try simp only [zz] at hb24
      refine g_e rfl (e_faQ pl3 rfl) (g_e rfl (e_lH (v := .sc _) rfl (hset_self _ _ _) rfl) (g_call rfl rfl rfl rfl (.cons inn_sc .nil) (coordC _) (g_e rfl (e_not rfl) (g_pF rfl rfl rfl (g_end (ds := [35, 36, 37, 38, 41, 42, 43, 44]) rfl rfl (hK20 _ ?_)))))); clear hK20 K20
      refine pwp_seq_cond rfl fun K27 hK27 => ⟨fun hb28 => ?_, fun hb28 => ?_⟩
      ·have hb28R := hb28; try simp only [zz] at hb28
       refine pwp_seq_plain rfl fun K29 hK29 => p_aS rfl (p_end (hK29 _ ?_)); clear hK29 K29
       refine pwp_ret (ret_seq (ret_block (ret_seq (ret_loop (ret_block (ret_seq (end1 (v := .sc _) rfl ?_)))))))
       first
         | exact out_i (scfE_8 (by omega))
         | exact out_i (scfE_n hsz (frs_hit hinv hd (nodE_2 (by first | exact spc_1 (by assumption) | exact spc_2 (by assumption) | exact spc_3 (by assumption))) (by decide)) (by decide))
         | exact out_i (scfE_n hsz (frs_hit hinv hd (nodE_5 (spc_t (by assumption) (by assumption) (by assumption)) ((ndK_take hx).1 (by assumption))) (by decide)) (by decide))
         | exact out_i (scfE_m hsz hN (frs_hit hinv2 hd (memE_2 (by assumption)) (by decide)))
         | exact out_i (scfE_m hsz hN (frs_hit hinv2 hd (memE_6 hm1 (by omega)) (by decide)))
         | exact out_i (scfE_m hsz hN (frs_hit hinv2 hd (memE_3 hm1 hm2 (by assumption)) (by decide)))
         | exact out_i (scfE_m hsz hN (frs_hit hinv2 hd (memE_5 hm1 hm2 (by assumption) (mb_in hy (by omega) (by assumption))) (by decide)))
         | exact out_i (scfE_m hsz hN hM.symm)
      ·have hb28R := hb28; try simp only [zz] at hb28
       refine pwp_skip (seq_norm (hK27 _ ?_)); clear hK27 K27
       refine pwp_seq_plain rfl fun K30 hK30 => p_e rfl (e_loadHA (cs := Scaffold.enc (s)) (n := 2) rfl ((hset_ne (key_ne rfl)).trans ((hset_ne (key_ne rfl)).trans hihj14_0)) (by kernel_rfl) (by kernel_rfl) (by kernel_rfl) (by exact Nat.zero_lt_one) (by decide) rfl) (p_e rfl (e_loadHA (cs := Node.enc (n)) (n := 3) rfl (hset_self _ _ _) (by kernel_rfl) (by kernel_rfl) (by kernel_rfl) (by exact Nat.zero_lt_one) (by decide) rfl) (p_call rfl (.cons (inn_agg (Scaffold.pure _)) (.cons (inn_agg (Node.pure _)) .nil)) (NodeAtC _ _ (by omega)) (p_mS rfl (p_e rfl (e_ne rfl rfl) (p_end (hK30 _ ?_)))))); clear hK30 K30
       refine pwp_cond rfl (fun hb31 => ?_) (fun hb31 => ?_)
       ·have hb31R := hb31; try simp only [zz] at hb31
        refine pwp_seq_plain rfl fun K32 hK32 => p_aS rfl (p_end (hK32 _ ?_)); clear hK32 K32
        refine pwp_ret (ret_block (ret_seq (ret_loop (ret_block (ret_seq (end1 (v := .sc _) rfl ?_))))))
        first
          | exact out_i (scfE_8 (by omega))
          | exact out_i (scfE_n hsz (frs_hit hinv hd (nodE_2 (by first | exact spc_1 (by assumption) | exact spc_2 (by assumption) | exact spc_3 (by assumption))) (by decide)) (by decide))
          | exact out_i (scfE_n hsz (frs_hit hinv hd (nodE_5 (spc_t (by assumption) (by assumption) (by assumption)) ((ndK_take hx).1 (by assumption))) (by decide)) (by decide))
          | exact out_i (scfE_m hsz hN (frs_hit hinv2 hd (memE_2 (by assumption)) (by decide)))
          | exact out_i (scfE_m hsz hN (frs_hit hinv2 hd (memE_6 hm1 (by omega)) (by decide)))
          | exact out_i (scfE_m hsz hN (frs_hit hinv2 hd (memE_3 hm1 hm2 (by assumption)) (by decide)))
          | exact out_i (scfE_m hsz hN (frs_hit hinv2 hd (memE_5 hm1 hm2 (by assumption) (mb_in hy (by omega) (by assumption))) (by decide)))
          | exact out_i (scfE_m hsz hN hM.symm)
       ·have hb31R := hb31; try simp only [zz] at hb31
        refine pwp_skip (block_norm (seq_norm (hK18 _ ?_))); clear hK18 K18
        refine pwp_plain rfl fun K33 hK33 => p_mS rfl (p_e rfl (e_adL rfl rfl) (p_aS rfl (p_end (hK33 _ ?_)))); clear hK33 K33
        exact loop_again (k + 1) (by show _ < _; omega) ⟨rfl, trivial⟩ ⟨rfl, trivial⟩ (by exact ⟨by show _ + 1 ≤ _; simp only [List.length_map] at *; omega, by exact frs_go hinv hd (nodE_0 (spc_t (by assumption) (by assumption) (by assumption)) (fun q => (ndK_take hx).2 q (by assumption))), ((hset_ne (key_ne rfl)).trans ((hset_ne (key_ne rfl)).trans hihj14_0))⟩)
   ·have hb17R := hb17; try simp only [zz] at hb17
    have hN := frs_end hinv (by simp only [List.length_map] at *; omega)
    refine pwp_exit (exit_seq ?_)
    clear hK16 K16
    refine exit_loop (exit_here (seq_norm (hK10 _ ?_))); clear hK10 K10
    refine pwp_seq_seq (pwp_seq_plain rfl fun K34 hK34 => p_aS rfl (p_end (hK34 _ ?_))); clear hK34 K34
    refine pwp_seq_block fun K35 hK35 => pwp_loopR (α := Nat) [1] (fun (k : Nat) => [(5, .int (k))]) (fun (k : Nat) (h : Heap) (_ : Nat → Nat) => ((k) ≤ s.members.length) ∧ (frsF (memE s) 0 s.members = frsF (memE s) (k) (s.members.drop (k))) ∧ (h (1, 0) = some (.rows 2 [Scaffold.enc s]))) (fun (k : Nat) => s.members.length - (k)) (0) (by exact ⟨rfl, trivial⟩) (by exact ⟨by exact Nat.zero_le _, by exact rfl, hihj14_0⟩) fun k r36 h37 c38 hj39 => ?_
    obtain ⟨hk, hinv2, hihj39_0⟩ := hj39
    try dsimp only at hk
    try dsimp only at hinv2
    try dsimp only at hihj39_0
    show pwp _ _ (loopQ _ _ _) ⟨sets (mix _ _ _) [(5, .int k)], _, _⟩
    refine pwp_seq_seq (pwp_seq_plain rfl fun K40 hK40 => p_mS rfl (p_e rfl (e_faQ pl2 rfl) (p_e rfl (e_lH (v := .lit _ _ _) rfl hihj39_0 rfl) (p_e rfl (e_len rfl (by kernel_rfl)) (p_e rfl (e_lt rfl rfl) (p_end (hK40 _ ?_))))))); clear hK40 K40
    refine pwp_seq_cond rfl fun K41 hK41 => ⟨fun hb42 => ?_, fun hb42 => ?_⟩
    ·have hb42R := hb42; try simp only [zz] at hb42
     obtain ⟨m, hx, hd, ht⟩ := get_lt (xs := s.members) (i := k) (by omega)
     refine pwp_skip (seq_norm (hK41 _ ?_)); clear hK41 K41
     refine pwp_seq_block fun K43 hK43 => pwp_seq_plain rfl fun K44 hK44 => p_e rfl (e_faQ pl2 rfl) (p_e rfl (e_lH (v := .lit _ _ _) rfl hihj39_0 rfl) (p_mS rfl (p_e rfl (e_ixL rfl rfl) (p_e rfl (e_loadA (n := 3) rfl (by kernel_rfl) (by kernel_rfl) (by kernel_rfl) (by first | omega | (simp only [List.length_map]; omega)) (by decide) (by first | exact agg_map hx rfl)) (p_new rfl (e_alloc (cs := [.int 0, .int 0, .int 0]) (n := 3) (by kernel_rfl) rfl (by decide)) (ob_alloc (by decide)) ?_)))))
     refine p_store rfl (e_storeA rfl (hset_self _ _ _) rfl rfl rfl (by kernel_rfl) rfl (by kernel_rfl)) trivial (p_end (hK44 _ ?_)); clear hK44 K44
     refine pwp_seq_seq (pwp_seq_plain rfl fun K45 hK45 => p_e rfl (e_faQ pl3 rfl) (p_e rfl (e_lH (v := .sc _) rfl (hset_self _ _ _) rfl) (p_call rfl (.cons inn_sc (.cons inn_sc (.cons inn_sc .nil))) (Within _ _ _) (p_e rfl (e_not rfl) (p_end (hK45 _ ?_)))))); clear hK45 K45
     refine pwp_seq_cond rfl fun K46 hK46 => ⟨fun hb47 => ?_, fun hb47 => ?_⟩
     ·have hb47R := hb47; try simp only [zz] at hb47
      refine pwp_seq_plain rfl fun K48 hK48 => p_aS rfl (p_end (hK48 _ ?_)); clear hK48 K48
      refine pwp_ret (ret_seq (ret_block (ret_seq (ret_loop (ret_block (ret_seq (end1 (v := .sc _) rfl ?_)))))))
      first
        | exact out_i (scfE_8 (by omega))
        | exact out_i (scfE_n hsz (frs_hit hinv hd (nodE_2 (by first | exact spc_1 (by assumption) | exact spc_2 (by assumption) | exact spc_3 (by assumption))) (by decide)) (by decide))
        | exact out_i (scfE_n hsz (frs_hit hinv hd (nodE_5 (spc_t (by assumption) (by assumption) (by assumption)) ((ndK_take hx).1 (by assumption))) (by decide)) (by decide))
        | exact out_i (scfE_m hsz hN (frs_hit hinv2 hd (memE_2 (by assumption)) (by decide)))
        | exact out_i (scfE_m hsz hN (frs_hit hinv2 hd (memE_6 hm1 (by omega)) (by decide)))
        | exact out_i (scfE_m hsz hN (frs_hit hinv2 hd (memE_3 hm1 hm2 (by assumption)) (by decide)))
        | exact out_i (scfE_m hsz hN (frs_hit hinv2 hd (memE_5 hm1 hm2 (by assumption) (mb_in hy (by omega) (by assumption))) (by decide)))
        | exact out_i (scfE_m hsz hN hM.symm)
     ·have hb47R := hb47; try simp only [zz] at hb47
      refine pwp_skip (seq_norm (hK46 _ ?_)); clear hK46 K46
      refine pwp_seq_seq ?_
      have hm1 : 0 ≤ m.kind ∧ m.kind ≤ 9 := (by assumption)
      refine pwp_seq_gops rfl fun K49 hK49 => g_begin (g_e rfl (e_faQ pl3 rfl) (g_e rfl (e_lH (v := .sc _) rfl (hset_self _ _ _) rfl) (g_e rfl (e_faQ pl2 rfl) (g_e rfl (e_lH (v := .lit _ _ _) rfl ((hset_ne (key_ne rfl)).trans ((hset_ne (key_ne rfl)).trans hihj39_0)) rfl) (g_e rfl (e_len rfl (by kernel_rfl)) (g_e rfl (e_sub rfl rfl (by first | omega | (simp only [List.length_map] at *; omega))) ?_))))))
      refine g_call rfl rfl rfl rfl (.cons inn_sc (.cons inn_sc (.cons inn_sc .nil))) (Within _ _ _) (g_e rfl (e_not rfl) (g_mS rfl rfl ?_))
      refine g_cases (fun hb50 => ?_) (fun hb50 => ?_)
      ·have hb50R := hb50; try simp only [zz] at hb50
       iterate 6 refine g_skip rfl rfl rfl ?_
       refine g_nocall rfl rfl rfl (g_skip rfl rfl rfl (g_pT rfl rfl rfl (g_end (ds := [76, 77, 78, 79, 80, 81, 82, 83]) rfl rfl (hK49 _ ?_)))); clear hK49 K49
       refine pwp_seq_cond (t := true) rfl fun K51 hK51 => ⟨fun _ => ?_, nofun⟩
       refine pwp_seq_plain rfl fun K52 hK52 => p_aS rfl (p_end (hK52 _ ?_)); clear hK52 K52
       refine pwp_ret (ret_seq (ret_block (ret_seq (ret_loop (ret_block (ret_seq (end1 (v := .sc _) rfl ?_)))))))
       first
         | exact out_i (scfE_8 (by omega))
         | exact out_i (scfE_n hsz (frs_hit hinv hd (nodE_2 (by first | exact spc_1 (by assumption) | exact spc_2 (by assumption) | exact spc_3 (by assumption))) (by decide)) (by decide))
         | exact out_i (scfE_n hsz (frs_hit hinv hd (nodE_5 (spc_t (by assumption) (by assumption) (by assumption)) ((ndK_take hx).1 (by assumption))) (by decide)) (by decide))
         | exact out_i (scfE_m hsz hN (frs_hit hinv2 hd (memE_2 (by assumption)) (by decide)))
         | exact out_i (scfE_m hsz hN (frs_hit hinv2 hd (memE_6 hm1 (by omega)) (by decide)))
         | exact out_i (scfE_m hsz hN (frs_hit hinv2 hd (memE_3 hm1 hm2 (by assumption)) (by decide)))
         | exact out_i (scfE_m hsz hN (frs_hit hinv2 hd (memE_5 hm1 hm2 (by assumption) (mb_in hy (by omega) (by assumption))) (by decide)))
         | exact out_i (scfE_m hsz hN hM.symm)
      ·have hb50R := hb50; try simp only [zz] at hb50
       refine g_e rfl (e_faQ pl3 rfl) (g_e rfl (e_lH (v := .sc _) rfl (hset_self _ _ _) rfl) (g_e rfl (e_faQ pl2 rfl) (g_e rfl (e_lH (v := .lit _ _ _) rfl ((hset_ne (key_ne rfl)).trans ((hset_ne (key_ne rfl)).trans hihj39_0)) rfl) (g_e rfl (e_len rfl (by kernel_rfl)) (g_e rfl (e_sub rfl rfl (by first | omega | (simp only [List.length_map] at *; omega))) (g_call rfl rfl rfl rfl (.cons inn_sc (.cons inn_sc (.cons inn_sc .nil))) (Within _ _ _) (g_e rfl (e_not rfl) ?_)))))))
       refine g_pF rfl rfl rfl (g_end (ds := [76, 77, 78, 79, 80, 81, 82, 83]) rfl rfl (hK49 _ ?_)); clear hK49 K49
       refine pwp_seq_cond rfl fun K53 hK53 => ⟨fun hb54 => ?_, fun hb54 => ?_⟩
       ·have hb54R := hb54; try simp only [zz] at hb54
        refine pwp_seq_plain rfl fun K55 hK55 => p_aS rfl (p_end (hK55 _ ?_)); clear hK55 K55
        refine pwp_ret (ret_seq (ret_block (ret_seq (ret_loop (ret_block (ret_seq (end1 (v := .sc _) rfl ?_)))))))
        first
          | exact out_i (scfE_8 (by omega))
          | exact out_i (scfE_n hsz (frs_hit hinv hd (nodE_2 (by first | exact spc_1 (by assumption) | exact spc_2 (by assumption) | exact spc_3 (by assumption))) (by decide)) (by decide))
          | exact out_i (scfE_n hsz (frs_hit hinv hd (nodE_5 (spc_t (by assumption) (by assumption) (by assumption)) ((ndK_take hx).1 (by assumption))) (by decide)) (by decide))
          | exact out_i (scfE_m hsz hN (frs_hit hinv2 hd (memE_2 (by assumption)) (by decide)))
          | exact out_i (scfE_m hsz hN (frs_hit hinv2 hd (memE_6 hm1 (by omega)) (by decide)))
          | exact out_i (scfE_m hsz hN (frs_hit hinv2 hd (memE_3 hm1 hm2 (by assumption)) (by decide)))
          | exact out_i (scfE_m hsz hN (frs_hit hinv2 hd (memE_5 hm1 hm2 (by assumption) (mb_in hy (by omega) (by assumption))) (by decide)))
          | exact out_i (scfE_m hsz hN hM.symm)
       ·have hb54R := hb54; try simp only [zz] at hb54
        refine pwp_skip (seq_norm (hK53 _ ?_)); clear hK53 K53
        refine pwp_seq_seq ?_
        have hm2 : (0 ≤ m.a ∧ m.a < (s.nodes.length : Int)) ∧ (0 ≤ m.b ∧ m.b < (s.nodes.length : Int)) := by simp only [List.length_map] at *; omega
        obtain ⟨a, ha, _, _⟩ := get_lt (xs := s.nodes) (i := m.a.toNat) (by omega)
        obtain ⟨b, hb, _, _⟩ := get_lt (xs := s.nodes) (i := m.b.toNat) (by omega)
        refine pwp_seq_plain rfl fun K56 hK56 => p_e rfl (e_loadHA (cs := Scaffold.enc (s)) (n := 2) rfl ((hset_ne (key_ne rfl)).trans ((hset_ne (key_ne rfl)).trans hihj39_0)) (by kernel_rfl) (by kernel_rfl) (by kernel_rfl) (by exact Nat.zero_lt_one) (by decide) rfl) (p_e rfl (e_loadHA (cs := Member.enc (m)) (n := 3) rfl (hset_self _ _ _) (by kernel_rfl) (by kernel_rfl) (by kernel_rfl) (by exact Nat.zero_lt_one) (by decide) rfl) (p_call rfl (.cons (inn_agg (Scaffold.pure _)) (.cons (inn_agg (Member.pure _)) .nil)) (GeometryC s m a b (by omega) hm2.1 hm2.2 ha hb hm1) (p_e rfl (e_not rfl) (p_end (hK56 _ ?_))))); clear hK56 K56
        refine pwp_seq_cond rfl fun K57 hK57 => ⟨fun hb58 => ?_, fun hb58 => ?_⟩
        ·have hb58R := hb58; try simp only [zz] at hb58
         refine pwp_seq_plain rfl fun K59 hK59 => p_aS rfl (p_end (hK59 _ ?_)); clear hK59 K59
         refine pwp_ret (ret_seq (ret_block (ret_seq (ret_loop (ret_block (ret_seq (end1 (v := .sc _) rfl ?_)))))))
         first
           | exact out_i (scfE_8 (by omega))
           | exact out_i (scfE_n hsz (frs_hit hinv hd (nodE_2 (by first | exact spc_1 (by assumption) | exact spc_2 (by assumption) | exact spc_3 (by assumption))) (by decide)) (by decide))
           | exact out_i (scfE_n hsz (frs_hit hinv hd (nodE_5 (spc_t (by assumption) (by assumption) (by assumption)) ((ndK_take hx).1 (by assumption))) (by decide)) (by decide))
           | exact out_i (scfE_m hsz hN (frs_hit hinv2 hd (memE_2 (by assumption)) (by decide)))
           | exact out_i (scfE_m hsz hN (frs_hit hinv2 hd (memE_6 hm1 (by omega)) (by decide)))
           | exact out_i (scfE_m hsz hN (frs_hit hinv2 hd (memE_3 hm1 hm2 (by assumption)) (by decide)))
           | exact out_i (scfE_m hsz hN (frs_hit hinv2 hd (memE_5 hm1 hm2 (by assumption) (mb_in hy (by omega) (by assumption))) (by decide)))
           | exact out_i (scfE_m hsz hN hM.symm)
        ·have hb58R := hb58; try simp only [zz] at hb58
         refine pwp_skip (seq_norm (hK57 _ ?_)); clear hK57 K57
         refine pwp_seq_plain rfl fun K60 hK60 => p_aS rfl (p_end (hK60 _ ?_)); clear hK60 K60
         refine pwp_block (pwp_loopR (α := Nat) [1, 5, 6] (fun (j : Nat) => [(7, .int (j))]) (fun (j : Nat) (h : Heap) (_ : Nat → Nat) => ((j) ≤ k) ∧ (∀ i, i < (j) → ∀ y, s.members[i]? = some y → mbK m y = false) ∧ (h (1, 0) = some (.rows 2 [Scaffold.enc s])) ∧ (h (6, c38 6) = some (.rows 3 [Member.enc m]))) (fun (j : Nat) => k - (j)) (0) (by exact ⟨rfl, trivial⟩) (by exact ⟨by exact Nat.zero_le _, by exact nx_0, ((hset_ne (key_ne rfl)).trans ((hset_ne (key_ne rfl)).trans hihj39_0)), (hset_self _ _ _)⟩) fun j r61 h62 c63 hj64 => ?_)
         obtain ⟨hj, hin, hihj64_0, hihj64_1⟩ := hj64
         try dsimp only at hj
         try dsimp only at hin
         try dsimp only at hihj64_0
         try dsimp only at hihj64_1
         show pwp _ _ (loopQ _ _ _) ⟨sets (mix _ _ _) [(7, .int j)], _, _⟩
         refine pwp_seq_seq (pwp_seq_plain rfl fun K65 hK65 => p_mS rfl (p_mS rfl (p_e rfl (e_lt rfl rfl) (p_end (hK65 _ ?_))))); clear hK65 K65
         refine pwp_seq_cond rfl fun K66 hK66 => ⟨fun hb67 => ?_, fun hb67 => ?_⟩
         ·have hb67R := hb67; try simp only [zz] at hb67
          obtain ⟨y, hy, hdy, hty⟩ := get_lt (xs := s.members) (i := j) (by omega)
          refine pwp_skip (seq_norm (hK66 _ ?_)); clear hK66 K66
          refine pwp_seq_block fun K68 hK68 => pwp_seq_gops rfl fun K69 hK69 => g_begin (g_e rfl (e_faQ pl2 rfl) (g_e rfl (e_lH (v := .lit _ _ _) rfl hihj64_0 rfl) (g_mS rfl rfl (g_e rfl (e_ixL rfl rfl) (g_e rfl (e_loadA (n := 3) rfl (by kernel_rfl) (by kernel_rfl) (by kernel_rfl) (by first | omega | (simp only [List.length_map]; omega)) (by decide) (by first | exact agg_map hy rfl)) ?_)))))
          refine g_e rfl (e_loadHA (cs := Member.enc (m)) (n := 3) rfl hihj64_1 (by kernel_rfl) (by kernel_rfl) (by kernel_rfl) (by exact Nat.zero_lt_one) (by decide) rfl) (g_e rfl (e_aeq rfl rfl (by kernel_rfl) (eqOk_Member (y) (m)) (eqV_Member (y) (m))) (g_end (ds := []) (by kernel_rfl) rfl (hK69 _ ?_))); clear hK69 K69
          refine pwp_cond rfl (fun hb70 => ?_) (fun hb70 => ?_)
          ·have hb70R := hb70; try simp only [zz] at hb70
           refine pwp_seq_plain rfl fun K71 hK71 => p_aS rfl (p_end (hK71 _ ?_)); clear hK71 K71
           refine pwp_ret (ret_block (ret_seq (ret_loop (ret_block (ret_block (ret_seq (ret_loop ?_)))))))
           refine ret_block (ret_seq (end1 (v := .sc _) rfl ?_))
           first
             | exact out_i (scfE_8 (by omega))
             | exact out_i (scfE_n hsz (frs_hit hinv hd (nodE_2 (by first | exact spc_1 (by assumption) | exact spc_2 (by assumption) | exact spc_3 (by assumption))) (by decide)) (by decide))
             | exact out_i (scfE_n hsz (frs_hit hinv hd (nodE_5 (spc_t (by assumption) (by assumption) (by assumption)) ((ndK_take hx).1 (by assumption))) (by decide)) (by decide))
             | exact out_i (scfE_m hsz hN (frs_hit hinv2 hd (memE_2 (by assumption)) (by decide)))
             | exact out_i (scfE_m hsz hN (frs_hit hinv2 hd (memE_6 hm1 (by omega)) (by decide)))
             | exact out_i (scfE_m hsz hN (frs_hit hinv2 hd (memE_3 hm1 hm2 (by assumption)) (by decide)))
             | exact out_i (scfE_m hsz hN (frs_hit hinv2 hd (memE_5 hm1 hm2 (by assumption) (mb_in hy (by omega) (by assumption))) (by decide)))
             | exact out_i (scfE_m hsz hN hM.symm)
          ·have hb70R := hb70; try simp only [zz] at hb70
           refine pwp_skip (block_norm (seq_norm (hK68 _ ?_))); clear hK68 K68
           refine pwp_plain rfl fun K72 hK72 => p_mS rfl (p_e rfl (e_adL rfl rfl) (p_aS rfl (p_end (hK72 _ ?_)))); clear hK72 K72
           exact loop_again (j + 1) (by show _ < _; omega) ⟨rfl, rfl, rfl, trivial⟩ ⟨rfl, trivial⟩ (by exact ⟨by show _ + 1 ≤ _; omega, by exact nx_step (K := mbK m) hin hy (decide_eq_false (by assumption)), hihj64_0, hihj64_1⟩)
         ·have hb67R := hb67; try simp only [zz] at hb67
          refine pwp_exit (exit_seq ?_)
          clear hK66 K66
          refine exit_loop (exit_here (block_norm (seq_norm (hK43 _ ?_)))); clear hK43 K43
          refine pwp_plain rfl fun K73 hK73 => p_mS rfl (p_e rfl (e_adL rfl rfl) (p_aS rfl (p_end (hK73 _ ?_)))); clear hK73 K73
          exact loop_again (k + 1) (by show _ < _; omega) ⟨rfl, trivial⟩ ⟨rfl, trivial⟩ (by exact ⟨by show _ + 1 ≤ _; simp only [List.length_map] at *; omega, by exact frs_go hinv2 hd (memE_0 hm1 hm2 (by assumption) (mb_nin hin (by omega))), hihj64_0⟩)
    ·have hb42R := hb42; try simp only [zz] at hb42
     have hM := frs_end hinv2 (by simp only [List.length_map] at *; omega)
     refine pwp_exit (exit_seq ?_)
     clear hK41 K41
     refine exit_loop (exit_here (seq_norm (hK35 _ ?_))); clear hK35 K35
     refine pwp_seq_plain rfl fun K74 hK74 => p_aS rfl (p_end (hK74 _ ?_)); clear hK74 K74
     refine pwp_ret (end1 (v := .sc _) rfl ?_)
     first
       | exact out_i (scfE_8 (by omega))
       | exact out_i (scfE_n hsz (frs_hit hinv hd (nodE_2 (by first | exact spc_1 (by assumption) | exact spc_2 (by assumption) | exact spc_3 (by assumption))) (by decide)) (by decide))
       | exact out_i (scfE_n hsz (frs_hit hinv hd (nodE_5 (spc_t (by assumption) (by assumption) (by assumption)) ((ndK_take hx).1 (by assumption))) (by decide)) (by decide))
       | exact out_i (scfE_m hsz hN (frs_hit hinv2 hd (memE_2 (by assumption)) (by decide)))
       | exact out_i (scfE_m hsz hN (frs_hit hinv2 hd (memE_6 hm1 (by omega)) (by decide)))
       | exact out_i (scfE_m hsz hN (frs_hit hinv2 hd (memE_3 hm1 hm2 (by assumption)) (by decide)))
       | exact out_i (scfE_m hsz hN (frs_hit hinv2 hd (memE_5 hm1 hm2 (by assumption) (mb_in hy (by omega) (by assumption))) (by decide)))
       | exact out_i (scfE_m hsz hN hM.symm)

end Go.Proofs.Ytjmjiegplnfiiaa

/- A scaffold is read: members. No conditions. -/
set_option linter.unusedSimpArgs false
set_option linter.unusedVariables false
set_option maxRecDepth 100000
namespace Go.Proofs.Ytjmjiegplnfiiaa
open Go Go.Pv
section
variable {P : Program} {ρ : Operand → PV} {h : Heap} {key : Key} {x y : Operand} {t : TypeId} {α β : Type} [DecidableEq α] {f : α → PV} {g : β → PV}
theorem e_lookOk {kt et : TypeId} {k : Key} {l : List (α × β)} {a : α} {z : β} (hf : ∀ a b, keyEq (f a) (f b) = decide (a = b)) (hko : ∀ a, keyOk P kt (f a)) (hx : ρ x = .map k) (hy : ρ y = f a) (hm : MapAt h k (entsOf f g l)) (ht : mapTy P t = some (kt, et)) (hz : zeroFit P et = true) (hzv : zeroVal P et = g z) :
   eff P ρ h key (.lookup t x y true) = ⟨True, .tup [g ((aGet a l).getD z), .bool (aGet a l).isSome], [], [k], false⟩ := by
 have h1 : lookRes P et true (mapFind (f a) (entsOf f g l)) = .tup [g ((aGet a l).getD z), .bool (aGet a l).isSome] := by
   rw [mapFind_of hf]
   unfold lookRes
   rw [hzv]
   cases aGet a l <;> rfl
 obtain ⟨bs, clk, hm, _⟩ := hm
 simp only [eff, hx, hy, lookupEff, ht, hm, h1, hz]
 simp [hko a]
 exact fun u w hu => ents_ok (g := g) (l := l) hko (u, w) hu
end
def kn (n : Node) : PV := .agg n.enc
theorem kn_eq (a b : Node) : keyEq (kn a) (kn b) = decide (a = b) := by
 show scsEq a.enc b.enc = _
 rw [Bool.eq_iff_iff]
 cases a; cases b
 simp [Node.enc, scsEq, scEq, and_assoc]
theorem kn_ok (a : Node) : keyOk Try.prog 144 (kn a) := by
 show keyAgg Try.prog 144 a.enc = true
 kernel_rfl
def kmb (n : Member) : PV := .agg n.enc
theorem kmb_eq (a b : Member) : keyEq (kmb a) (kmb b) = decide (a = b) := by
 show scsEq a.enc b.enc = _
 rw [Bool.eq_iff_iff]
 cases a; cases b
 simp [Member.enc, scsEq, scEq, and_assoc]
theorem kmb_ok (a : Member) : keyOk Try.prog 146 (kmb a) := by
 show keyAgg Try.prog 146 a.enc = true
 kernel_rfl
/-- The map of nodes: which ones it holds. -/
def NdI (ns : List Node) (k : Nat) (mp : List (Node × Int)) : Prop := ∀ n, (aGet n mp).isSome = decide (n ∈ ns.take k)
theorem NdI.nil {ns : List Node} : NdI ns 0 [] := fun n => by simp [aGet]
theorem NdI.step {ns : List Node} {k : Nat} {mp : List (Node × Int)} {n : Node} {v : Int} (h : NdI ns k mp) (ht : ns.take (k + 1) = ns.take k ++ [n]) : NdI ns (k + 1) (aSet n v mp) := fun x => by
 rw [aGet_aSet, ht]
 by_cases e : x = n
 · subst e; simp
 · rw [if_neg e, h x]; simp [e]
theorem NdI.all {ns : List Node} {k : Nat} {mp : List (Node × Int)} (h : NdI ns k mp) (hk : ns.length ≤ k) (n : Node) : (aGet n mp).isSome = decide (0 ≤ ixA (ndK n) ns) := by
 rw [h n, List.take_of_length_le hk]
 exact decide_eq_decide.2 ndK_mem.symm
def MbI (ms : List Member) (k : Nat) (mm : List (Member × Bool)) : Prop := ∀ m, (aGet m mm).getD false = decide (m ∈ ms.take k)
theorem MbI.nil {ms : List Member} : MbI ms 0 [] := fun n => by simp [aGet]
theorem MbI.step {ms : List Member} {k : Nat} {mm : List (Member × Bool)} {m : Member} (h : MbI ms k mm) (ht : ms.take (k + 1) = ms.take k ++ [m]) : MbI ms (k + 1) (aSet m true mm) := fun x => by
 rw [aGet_aSet, ht]
 by_cases e : x = m
 · subst e; simp
 · rw [if_neg e, h x]; simp [e]
def co3 (n : Node) (k : Nat) : Int := [n.px, n.py, n.pz].getD k 0
theorem co3_v {n : Node} {k : Nat} (hk : k < 3) : n.enc.getD ((k : Int)).toNat .dead = .int (co3 n k) := by
 match k, hk with
 | 0, _ => rfl
 | 1, _ => rfl
 | 2, _ => rfl
theorem spc_all {n : Node} (h : ∀ i, i < 3 → cordB (co3 n i) = true) : spcB n = true := spc_t (h 0 (by decide)) (h 1 (by decide)) (h 2 (by decide))
theorem spc_no {n : Node} {k : Nat} (hk : k < 3) (h : cordB (co3 n k) = false) : spcB n = false := by
 match k, hk, h with
 | 0, _, h => exact spc_1 h
 | 1, _, h => exact spc_2 h
 | 2, _, h => exact spc_3 h
theorem old_ne {c0 : Nat → Nat} {k' : Key} {d g : Nat} (hk : k'.2 < c0 k'.1) (hg : g = c0 d) : k' ≠ (d, g) := fun e => by
 subst e; simp only at hk; omega
theorem known_at {r : Nat → PV} {h : Heap} {cnt : Nat → Nat} (hk : Known ⟨r, h, cnt⟩) {d g : Nat} {o : PObj} (h1 : h (d, g) = some o) : g < cnt d := hk (d, g) o h1
theorem known_map {r : Nat → PV} {h : Heap} {cnt : Nat → Nat} (hk : Known ⟨r, h, cnt⟩) {d g : Nat} {es : List (PV × PV)} (hm : MapAt h (d, g) es) : g < cnt d := by
 obtain ⟨bs, clk, h1, _⟩ := hm
 exact hk (d, g) _ h1
/-- What a scaffold that was read is. -/
def ReadR (s : Scaffold) (v : PV) : Prop := ∃ k : Key, v = .tup [.agg [.lit true 3 (s.nodes.map Node.enc), .lit true 3 (s.members.map Member.enc), .map k], .int (scfE s)]
theorem readR_of {s : Scaffold} {e : Int} {k : Key} (h : e = scfE s) : ReadR s (.tup [.agg [.lit true 3 (s.nodes.map Node.enc), .lit true 3 (s.members.map Member.enc), .map k], .int e]) := ⟨k, by rw [h]⟩

theorem fr129 : (inFrame Try.f129.ntmps (Try.f129.body.getD .skip) && Try.f129.results.toList.all (resScope Try.f129.ntmps)) = true := by kernel_rfl
theorem inSpaceC (n : Node) : PCalls Try.prog 129 [.agg n.enc] (.bool (spcB n)) := by
 refine PCalls.of_code Try.func129 rfl rfl (by kernel_rfl) mixed fr129 (by show _ ≤ 22; simp) (.sc _) (pwp_seq_plain rfl fun K1 hK1 => p_new rfl (e_box (n := 3) rfl rfl) ⟨rfl, by decide⟩ (p_aS rfl (p_end (hK1 _ ?_)))); clear hK1 K1
 refine pwp_seq_seq (pwp_seq_plain rfl fun K2 hK2 => p_e rfl (e_faQ pl3 rfl) (p_e rfl (e_lH (v := .sc _) rfl (hset_self _ _ _) rfl) (p_e rfl (e_faQ pl3 rfl) (p_e rfl (e_lH (v := .sc _) rfl (hset_self _ _ _) rfl) (p_e rfl (e_faQ pl3 rfl) (p_e rfl (e_lH (v := .sc _) rfl (hset_self _ _ _) rfl) ?_))))))
 refine p_e rfl (e_buildA (zs := [.int 0, .int 0, .int 0]) (pl := [(0, 1, false), (1, 1, false), (2, 1, false)]) (by kernel_rfl) (by kernel_rfl) (by kernel_rfl) rfl rfl (by exact ⟨by decide, rfl, Nat.le_of_ble_eq_true rfl, rfl, ⟨by decide, rfl, Nat.le_of_ble_eq_true rfl, rfl, ⟨by decide, rfl, Nat.le_of_ble_eq_true rfl, rfl, trivial⟩⟩⟩) rfl) (p_mS rfl (p_end (hK2 _ ?_))); clear hK2 K2
 refine pwp_seq_block fun K3 hK3 => pwp_loopR (α := Nat) [11] (fun (k : Nat) => [(12, .int (k))]) (fun (k : Nat) (h : Heap) (_ : Nat → Nat) => ((k) ≤ 3) ∧ (∀ i, i < (k) → cordB (co3 n i) = true)) (fun (k : Nat) => 3 - (k)) (0) (by exact ⟨rfl, trivial⟩) (by exact ⟨by omega, by exact upto_0⟩) fun k r4 h5 c6 hj7 => ?_
 obtain ⟨hk, hin⟩ := hj7
 try dsimp only at hk
 try dsimp only at hin
 show pwp _ _ (loopQ _ _ _) ⟨sets (mix _ _ _) [(12, .int k)], _, _⟩
 refine pwp_seq_plain rfl fun K8 hK8 => p_e rfl (e_lt rfl rfl) (p_end (hK8 _ ?_)); clear hK8 K8
 refine pwp_seq_cond rfl fun K9 hK9 => ⟨fun hb10 => ?_, fun hb10 => ?_⟩
 ·have hb10R := hb10; try simp only [zz] at hb10
  have hk3 : k < 3 := by omega
  refine pwp_skip (seq_norm (hK9 _ ?_)); clear hK9 K9
  refine pwp_seq_block fun K11 hK11 => pwp_seq_plain rfl fun K12 hK12 => p_e rfl (e_indexA (n := 3) (e := 3) (kd := .i64) (i := (k : Int)) (cs := n.enc) rfl rfl (by kernel_rfl) (by kernel_rfl) (by kernel_rfl) (by omega) rfl (co3_v hk3)) (p_aS rfl (p_end (hK12 _ ?_))); clear hK12 K12
  refine pwp_seq_gops rfl fun K13 hK13 => g_begin (g_mS rfl rfl (g_e rfl (e_lt rfl rfl) (g_mS rfl rfl ?_)))
  refine g_cases (fun hb14 => ?_) (fun hb14 => ?_)
  ·have hb14R := hb14; try simp only [zz] at hb14
   iterate 2 refine g_skip rfl rfl rfl ?_
   refine g_pT rfl rfl rfl (g_end (ds := [18, 19]) rfl rfl (hK13 _ ?_)); clear hK13 K13
   refine pwp_cond (t := true) rfl (fun _ => ?_) nofun
   refine pwp_seq_plain rfl fun K15 hK15 => p_aS rfl (p_end (hK15 _ ?_)); clear hK15 K15
   refine pwp_ret (ret_block (ret_seq (ret_loop (ret_block (ret_seq (end1 (v := .sc _) rfl ?_))))))
   exact out_b (spc_no hk3 (decide_eq_false (by omega))).symm
  have hb14R := hb14; try simp only [zz] at hb14
  refine g_mS rfl rfl (g_e rfl (e_gt rfl rfl) (g_pF rfl rfl rfl (g_end (ds := [18, 19]) rfl rfl (hK13 _ ?_)))); clear hK13 K13
  refine pwp_cond rfl (fun hb16 => ?_) (fun hb16 => ?_)
  ·have hb16R := hb16; try simp only [zz] at hb16
   refine pwp_seq_plain rfl fun K17 hK17 => p_aS rfl (p_end (hK17 _ ?_)); clear hK17 K17
   refine pwp_ret (ret_block (ret_seq (ret_loop (ret_block (ret_seq (end1 (v := .sc _) rfl ?_))))))
   exact out_b (spc_no hk3 (decide_eq_false (by omega))).symm
  have hb16R := hb16; try simp only [zz] at hb16
  refine pwp_skip (block_norm (seq_norm (hK11 _ ?_))); clear hK11 K11
  refine pwp_plain rfl fun K18 hK18 => p_e rfl (e_adL rfl rfl) (p_mS rfl (p_end (hK18 _ ?_))); clear hK18 K18
  exact loop_again (k + 1) (by show _ < _; omega) ⟨rfl, trivial⟩ ⟨rfl, trivial⟩ (by exact ⟨by show _ + 1 ≤ _; omega, by exact upto_step (p := fun i => cordB (co3 n i) = true) hin (decide_eq_true (by omega))⟩)
 have hb10R := hb10; try simp only [zz] at hb10
 obtain rfl : k = 3 := by omega
 refine pwp_exit (exit_seq ?_)
 clear hK9 K9
 refine exit_loop (exit_here (seq_norm (hK3 _ ?_))); clear hK3 K3
 refine pwp_seq_plain rfl fun K19 hK19 => p_aS rfl (p_end (hK19 _ ?_)); clear hK19 K19
 refine pwp_ret (end1 (v := .sc _) rfl ?_)
 exact out_b (spc_all hin).symm

theorem fr130 : (inFrame Try.f130.ntmps (Try.f130.body.getD .skip) && Try.f130.results.toList.all (resScope Try.f130.ntmps)) = true := by kernel_rfl
theorem hasN (s : Scaffold) (z : Int) (hlen : s.nodes.length ≤ 1000000) : PCalls Try.prog 130 [.int z, .lptr true 2 [s.enc] 0 0] (.bool (decide (0 ≤ z ∧ z < (s.nodes.length : Int)))) := by
 refine PCalls.of_code Try.func130 rfl rfl (by kernel_rfl) mixed fr130 (by show _ ≤ 13; simp) (.sc _) (pwp_seq_plain rfl fun K1 hK1 => p_aS rfl (p_end (hK1 _ ?_))); clear hK1 K1
 refine pwp_seq_gops rfl fun K2 hK2 => g_begin (g_mS rfl rfl (g_e rfl (e_ge rfl rfl) (g_mS rfl rfl ?_)))
 refine g_cases (fun hb3 => ?_) (fun hb3 => ?_)
 ·have hb3R := hb3; try simp only [zz] at hb3
  refine g_mS rfl rfl (g_e rfl (e_fb pl2 rfl) (g_e rfl (e_load (v := .lit _ _ _) rfl (by kernel_rfl) (by kernel_rfl) (by kernel_rfl) (by exact Nat.zero_lt_one) (by decide) rfl) (g_e rfl (e_len rfl (by kernel_rfl)) (g_e rfl (e_lt rfl rfl) (g_pT rfl rfl rfl (g_aS rfl rfl (g_end (ds := [7, 8, 9, 10, 11]) rfl rfl (hK2 _ ?_)))))))); clear hK2 K2
  refine pwp_ret (end1 (v := .sc _) rfl ?_)
  exact out_b (by rw [Bool.eq_iff_iff]; simp only [decide_eq_true_eq, List.length_map]; omega)
 have hb3R := hb3; try simp only [zz] at hb3
 iterate 5 refine g_skip rfl rfl rfl ?_
 refine g_pF rfl rfl rfl (g_aS rfl rfl (g_end (ds := [7, 8, 9, 10, 11]) rfl rfl (hK2 _ ?_))); clear hK2 K2
 refine pwp_ret (end1 (v := .sc _) rfl ?_)
 exact out_b (decide_eq_false (by omega)).symm

theorem fr131 : (inFrame Try.f131.ntmps (Try.f131.body.getD .skip) && Try.f131.results.toList.all (resScope Try.f131.ntmps)) = true := by kernel_rfl
theorem withinP (z m : Int) : PCalls Try.prog 131 [.int z, .int m] (.bool (decide (0 ≤ z ∧ z ≤ m))) := by
 refine PCalls.of_code Try.func131 rfl rfl (by kernel_rfl) mixed fr131 (by show _ ≤ 12; simp) (.sc _) (pwp_seq_plain rfl fun K1 hK1 => p_aS rfl (p_end (hK1 _ ?_))); clear hK1 K1
 refine pwp_seq_gops rfl fun K2 hK2 => g_begin (g_mS rfl rfl (g_e rfl (e_ge rfl rfl) (g_mS rfl rfl ?_)))
 refine g_cases (fun hb3 => ?_) (fun hb3 => ?_)
 ·have hb3R := hb3; try simp only [zz] at hb3
  refine g_mS rfl rfl (g_mS rfl rfl (g_e rfl (e_le rfl rfl) (g_pT rfl rfl rfl (g_aS rfl rfl (g_end (ds := [8, 9, 10]) rfl rfl (hK2 _ ?_)))))); clear hK2 K2
  refine pwp_ret (end1 (v := .sc _) rfl ?_)
  exact out_b (by first | rfl | (rw [Bool.eq_iff_iff]; simp only [decide_eq_true_eq, Bool.false_eq_true, eq_self_iff_true, true_iff, false_iff, iff_true, iff_false]; omega) | (exfalso; simp_all))
 have hb3R := hb3; try simp only [zz] at hb3
 iterate 3 refine g_skip rfl rfl rfl ?_
 refine g_pF rfl rfl rfl (g_aS rfl rfl (g_end (ds := [8, 9, 10]) rfl rfl (hK2 _ ?_))); clear hK2 K2
 refine pwp_ret (end1 (v := .sc _) rfl ?_)
 exact out_b (by first | rfl | (rw [Bool.eq_iff_iff]; simp only [decide_eq_true_eq, Bool.false_eq_true, eq_self_iff_true, true_iff, false_iff, iff_true, iff_false]; omega) | (exfalso; simp_all))

theorem frH132 : (inFrame Try.f132.ntmps (Try.f132.body.getD .skip) && Try.f132.results.toList.all (resScope Try.f132.ntmps)) = true := by kernel_rfl
theorem rightH (h0 : Heap) (c0 : Nat → Nat) (s : Scaffold) (m : Member) (a b : Node) (q : Nat) (mp : List (Node × Int)) (hm : MapAt h0 (14, q) (entsOf kn PV.int mp)) (hmp : ∀ n, (aGet n mp).isSome = decide (0 ≤ ixA (ndK n) s.nodes)) (hlen : s.nodes.length ≤ 1000000) (hma : 0 ≤ m.a ∧ m.a < (s.nodes.length : Int)) (hmb : 0 ≤ m.b ∧ m.b < (s.nodes.length : Int)) (ha : s.nodes[m.a.toNat]? = some a) (hb : s.nodes[m.b.toNat]? = some b) (hmk : 0 ≤ m.kind ∧ m.kind ≤ 9) : HCallsR Try.prog 132 [.agg [.lit true 3 (s.nodes.map Node.enc), .lit true 3 (s.members.map Member.enc), .map (14, q)], .agg m.enc] h0 c0 (fun v h' _ => v = .bool (geoB s.nodes m) ∧ ∀ k' : Key, k'.2 < c0 k'.1 → h' k' = h0 k') := by
 refine HCallsR.of_code Try.func132 rfl rfl (by kernel_rfl) mixed frH132 (by show _ ≤ 166; simp) (pwp_seq_plain rfl fun K1 hK1 => p_new rfl (e_box (n := 3) rfl rfl) ⟨rfl, by decide⟩ (p_new rfl (e_box (n := 3) rfl rfl) ⟨rfl, by decide⟩ (p_aS rfl (p_end (hK1 _ ?_))))); clear hK1 K1
 refine pwp_seq_gops rfl fun K2 hK2 => s_begin (s_e rfl (e_faQ [(0, 2, true), (2, 1, false)] rfl) (s_e rfl (e_faQ pl2 rfl) (s_step [2] (by simp) rfl rfl rfl rfl (e_lH (v := .lit _ _ _) rfl ((hset_ne (key_ne rfl)).trans (hset_self _ _ _)) rfl) trivial (s_e rfl (e_faQ pl3 rfl) (s_step [3] (by simp) rfl rfl rfl rfl (e_lH (v := .sc _) rfl (hset_self _ _ _) rfl) trivial (s_e rfl (e_ixL rfl rfl) ?_))))))
 refine s_e rfl (e_loadA (n := 3) rfl (by kernel_rfl) (by kernel_rfl) (by kernel_rfl) (by first | omega | (simp only [List.length_map]; omega)) (by decide) (by first | exact agg_map ha rfl)) (s_e rfl (e_faQ [(0, 2, true), (2, 1, false)] rfl) (s_e rfl (e_faQ pl2 rfl) (s_step [2] (by simp) rfl rfl rfl rfl (e_lH (v := .lit _ _ _) rfl ((hset_ne (key_ne rfl)).trans (hset_self _ _ _)) rfl) trivial (s_e rfl (e_faQ pl3 rfl) (s_step [3] (by simp) rfl rfl rfl rfl (e_lH (v := .sc _) rfl (hset_self _ _ _) rfl) trivial (s_e rfl (e_ixL rfl rfl) (s_e rfl (e_loadA (n := 3) rfl (by kernel_rfl) (by kernel_rfl) (by kernel_rfl) (by first | omega | (simp only [List.length_map]; omega)) (by decide) (by first | exact agg_map hb rfl)) ?_)))))))
 refine s_new [] (by simp) rfl rfl rfl rfl (e_alloc (cs := [.int 0, .int 0, .int 0]) (n := 3) (by kernel_rfl) rfl (by decide)) (ob_alloc (by decide)) (s_new [] (by simp) rfl rfl rfl rfl (e_alloc (cs := [.int 0, .int 0, .int 0]) (n := 3) (by kernel_rfl) rfl (by decide)) (ob_alloc (by decide)) (s_store [5] (by simp) rfl rfl (e_storeA rfl ((hset_ne (key_ne rfl)).trans (hset_self _ _ _)) rfl rfl rfl (by kernel_rfl) rfl (by kernel_rfl)) trivial (s_store [6] (by simp) rfl rfl (e_storeA rfl ((hset_ne (key_ne rfl)).trans (hset_self _ _ _)) rfl rfl rfl (by kernel_rfl) rfl (by kernel_rfl)) trivial (s_end (ds := []) (by kernel_rfl) (by kernel_rfl) (hK2 _ ?_))))); clear hK2 K2
 refine pwp_seq_seq (pwp_seq_plain rfl fun K3 hK3 => p_e rfl (e_faQ pl3 rfl) (p_e rfl (e_lH (v := .sc _) rfl ((hset_ne (key_ne rfl)).trans ((hset_ne (key_ne rfl)).trans ((hset_ne (key_ne rfl)).trans ((hset_ne (key_ne rfl)).trans (hset_self _ _ _))))) rfl) (p_end (hK3 _ ?_)))); clear hK3 K3
 refine pwp_seq_block fun K4 hK4 => pwp_seq_seq (pwp_seq_plain rfl fun K5 hK5 => p_e rfl (e_eq rfl rfl) (p_aS rfl (p_end (hK5 _ ?_)))); clear hK5 K5
 refine pwp_seq_cutG [2, 3, 5, 6, 26] [(27, .bool (if (decide (m.kind = (0))) = true then (decide (m.kind = (0))) else (decide (m.kind = (7)))))] (fun K6 hK6 => ?_) (fun r7 => ?_)
 ·skip
  refine pwp_cond rfl (fun hb8 => ?_) (fun hb8 => ?_)
  ·have hb8R := hb8; try simp only [zz] at hb8
   refine pwp_skip ?_
   exact seq_norm (hK6 _ ⟨rfl, rfl, rfl, rfl, rfl, trivial⟩ ⟨(congrArg PV.bool (show ((decide (m.kind = (0))) : Bool) = (if (decide (m.kind = (0))) = true then (decide (m.kind = (0))) else (decide (m.kind = (7)))) by first | rfl | ((try rw [hb8R]) <;> (first | rfl | (simp only [Bool.and_true, Bool.and_false, Bool.true_and, Bool.false_and, Bool.or_true, Bool.or_false, Bool.true_or, Bool.false_or, Bool.not_true, Bool.not_false, if_true, if_false, Bool.false_eq_true, reduceIte] <;> rfl))) | (simp only [hb8R, Bool.and_true, Bool.and_false, Bool.true_and, Bool.false_and, Bool.or_true, Bool.or_false, Bool.true_or, Bool.false_or, Bool.not_true, Bool.not_false, if_true, if_false, Bool.false_eq_true, reduceIte] <;> rfl))), trivial⟩)
  have hb8R := hb8; try simp only [zz] at hb8
  refine pwp_plain rfl fun K9 hK9 => p_e rfl (e_eq rfl rfl) (p_aS rfl (p_end (hK9 _ ?_))); clear hK9 K9
  exact seq_norm (hK6 _ ⟨rfl, rfl, rfl, rfl, rfl, trivial⟩ ⟨(congrArg PV.bool (show ((decide (m.kind = (7))) : Bool) = (if (decide (m.kind = (0))) = true then (decide (m.kind = (0))) else (decide (m.kind = (7)))) by first | rfl | ((try rw [hb8R]) <;> (first | rfl | (simp only [Bool.and_true, Bool.and_false, Bool.true_and, Bool.false_and, Bool.or_true, Bool.or_false, Bool.true_or, Bool.false_or, Bool.not_true, Bool.not_false, if_true, if_false, Bool.false_eq_true, reduceIte] <;> rfl))) | (simp only [hb8R, Bool.and_true, Bool.and_false, Bool.true_and, Bool.false_and, Bool.or_true, Bool.or_false, Bool.true_or, Bool.false_or, Bool.not_true, Bool.not_false, if_true, if_false, Bool.false_eq_true, reduceIte] <;> rfl))), trivial⟩)
 refine pwp_cond rfl (fun hb10 => ?_) (fun hb10 => ?_)
 ·have hb10R := hb10; try simp only [zz] at hb10
  refine pwp_seq_cutG [] [(4, .bool (((decide (a.px = b.px)) && (decide (a.py = b.py))) && (decide (a.pz < b.pz))))] (fun K11 hK11 => ?_) (fun r12 => ?_)
  ·skip
   refine pwp_gops rfl fun K13 hK13 => g_begin (g_e rfl (e_faQ pl3 rfl) (g_e rfl (e_lH (v := .sc _) rfl ((hset_ne (key_ne rfl)).trans (hset_self _ _ _)) rfl) (g_e rfl (e_faQ pl3 rfl) (g_e rfl (e_lH (v := .sc _) rfl (hset_self _ _ _) rfl) (g_e rfl (e_eq rfl rfl) (g_mS rfl rfl ?_))))))
   refine g_cases (fun hb14 => ?_) (fun hb14 => ?_)
   ·have hb14R := hb14; try simp only [zz] at hb14
    refine g_e rfl (e_faQ pl3 rfl) (g_e rfl (e_lH (v := .sc _) rfl ((hset_ne (key_ne rfl)).trans (hset_self _ _ _)) rfl) (g_e rfl (e_faQ pl3 rfl) (g_e rfl (e_lH (v := .sc _) rfl (hset_self _ _ _) rfl) (g_e rfl (e_eq rfl rfl) (g_pT rfl rfl rfl (g_mS rfl rfl ?_))))))
    refine g_cases (fun hb15 => ?_) (fun hb15 => ?_)
    ·have hb15R := hb15; try simp only [zz] at hb15
     refine g_e rfl (e_faQ pl3 rfl) (g_e rfl (e_lH (v := .sc _) rfl ((hset_ne (key_ne rfl)).trans (hset_self _ _ _)) rfl) (g_e rfl (e_faQ pl3 rfl) (g_e rfl (e_lH (v := .sc _) rfl (hset_self _ _ _) rfl) (g_e rfl (e_lt rfl rfl) (g_pT rfl rfl rfl (g_aS rfl rfl (g_end (ds := [36, 37, 38, 39, 40, 43, 44, 45, 46, 47]) rfl rfl (hK13 _ ?_)))))))); clear hK13 K13
     exact seq_norm (hK11 _ trivial ⟨(congrArg PV.bool (show ((decide (a.pz < b.pz)) : Bool) = (((decide (a.px = b.px)) && (decide (a.py = b.py))) && (decide (a.pz < b.pz))) by first | rfl | ((try rw [hb15R]) <;> (try rw [hb14R]) <;> (first | rfl | (simp only [Bool.and_true, Bool.and_false, Bool.true_and, Bool.false_and, Bool.or_true, Bool.or_false, Bool.true_or, Bool.false_or, Bool.not_true, Bool.not_false, if_true, if_false, Bool.false_eq_true, reduceIte] <;> rfl))) | (simp only [hb14R, hb15R, Bool.and_true, Bool.and_false, Bool.true_and, Bool.false_and, Bool.or_true, Bool.or_false, Bool.true_or, Bool.false_or, Bool.not_true, Bool.not_false, if_true, if_false, Bool.false_eq_true, reduceIte] <;> rfl))), trivial⟩)
    have hb15R := hb15; try simp only [zz] at hb15
    iterate 5 refine g_skip rfl rfl rfl ?_
    refine g_pF rfl rfl rfl (g_aS rfl rfl (g_end (ds := [36, 37, 38, 39, 40, 43, 44, 45, 46, 47]) rfl rfl (hK13 _ ?_))); clear hK13 K13
    exact seq_norm (hK11 _ trivial ⟨(congrArg PV.bool (show (false : Bool) = (((decide (a.px = b.px)) && (decide (a.py = b.py))) && (decide (a.pz < b.pz))) by first | rfl | ((try rw [hb15R]) <;> (try rw [hb14R]) <;> (first | rfl | (simp only [Bool.and_true, Bool.and_false, Bool.true_and, Bool.false_and, Bool.or_true, Bool.or_false, Bool.true_or, Bool.false_or, Bool.not_true, Bool.not_false, if_true, if_false, Bool.false_eq_true, reduceIte] <;> rfl))) | (simp only [hb14R, hb15R, Bool.and_true, Bool.and_false, Bool.true_and, Bool.false_and, Bool.or_true, Bool.or_false, Bool.true_or, Bool.false_or, Bool.not_true, Bool.not_false, if_true, if_false, Bool.false_eq_true, reduceIte] <;> rfl))), trivial⟩)
   have hb14R := hb14; try simp only [zz] at hb14
   iterate 5 refine g_skip rfl rfl rfl ?_
   refine g_pF rfl rfl rfl (g_mS rfl rfl ?_)
   iterate 5 refine g_skip rfl rfl rfl ?_
   refine g_pF rfl rfl rfl (g_aS rfl rfl (g_end (ds := [36, 37, 38, 39, 40, 43, 44, 45, 46, 47]) rfl rfl (hK13 _ ?_))); clear hK13 K13
   exact seq_norm (hK11 _ trivial ⟨(congrArg PV.bool (show (false : Bool) = (((decide (a.px = b.px)) && (decide (a.py = b.py))) && (decide (a.pz < b.pz))) by first | rfl | ((try rw [hb14R]) <;> (first | rfl | (simp only [Bool.and_true, Bool.and_false, Bool.true_and, Bool.false_and, Bool.or_true, Bool.or_false, Bool.true_or, Bool.false_or, Bool.not_true, Bool.not_false, if_true, if_false, Bool.false_eq_true, reduceIte] <;> rfl))) | (simp only [hb14R, Bool.and_true, Bool.and_false, Bool.true_and, Bool.false_and, Bool.or_true, Bool.or_false, Bool.true_or, Bool.false_or, Bool.not_true, Bool.not_false, if_true, if_false, Bool.false_eq_true, reduceIte] <;> rfl))), trivial⟩)
  refine pwp_ret (ret_block (ret_seq (end1 (v := .sc _) rfl (⟨congrArg PV.bool ?_, fun k' hk' => (hset_ne (old_ne hk' rfl)).trans ((hset_ne (old_ne hk' rfl)).trans ((hset_ne (old_ne hk' rfl)).trans ((hset_ne (old_ne hk' rfl)).trans ((hset_ne (old_ne hk' rfl)).trans ((hset_ne (old_ne hk' rfl)).trans (rfl))))))⟩))))
  rw [geoB_at ha hb]
  clear ha hb hm
  simp only [hmp] at *
  clear hmp
  rcases (by omega : m.kind = 0 ∨ m.kind = 1 ∨ m.kind = 2 ∨ m.kind = 3 ∨ m.kind = 4 ∨ m.kind = 5 ∨ m.kind = 6 ∨ m.kind = 7 ∨ m.kind = 8 ∨ m.kind = 9) with q2 | q2 | q2 | q2 | q2 | q2 | q2 | q2 | q2 | q2 <;> simp_all [geo2] <;> first | omega | (rw [Bool.eq_iff_iff]; simp; omega)
 have hb10R := hb10; try simp only [zz] at hb10
 refine pwp_seq_seq (pwp_seq_plain rfl fun K16 hK16 => p_e rfl (e_eq rfl rfl) (p_aS rfl (p_end (hK16 _ ?_)))); clear hK16 K16
 refine pwp_seq_cutG [2, 3, 5, 6, 26] [(49, .bool (if (decide (m.kind = (1))) = true then (decide (m.kind = (1))) else (if (decide (m.kind = (2))) = true then (decide (m.kind = (2))) else (if (decide (m.kind = (4))) = true then (decide (m.kind = (4))) else (decide (m.kind = (5)))))))] (fun K17 hK17 => ?_) (fun r18 => ?_)
 ·skip
  refine pwp_cond rfl (fun hb19 => ?_) (fun hb19 => ?_)
  ·have hb19R := hb19; try simp only [zz] at hb19
   refine pwp_skip ?_
   exact seq_norm (hK17 _ ⟨rfl, rfl, rfl, rfl, rfl, trivial⟩ ⟨(congrArg PV.bool (show ((decide (m.kind = (1))) : Bool) = (if (decide (m.kind = (1))) = true then (decide (m.kind = (1))) else (if (decide (m.kind = (2))) = true then (decide (m.kind = (2))) else (if (decide (m.kind = (4))) = true then (decide (m.kind = (4))) else (decide (m.kind = (5)))))) by first | rfl | ((try rw [hb19R]) <;> (first | rfl | (simp only [Bool.and_true, Bool.and_false, Bool.true_and, Bool.false_and, Bool.or_true, Bool.or_false, Bool.true_or, Bool.false_or, Bool.not_true, Bool.not_false, if_true, if_false, Bool.false_eq_true, reduceIte] <;> rfl))) | (simp only [hb19R, Bool.and_true, Bool.and_false, Bool.true_and, Bool.false_and, Bool.or_true, Bool.or_false, Bool.true_or, Bool.false_or, Bool.not_true, Bool.not_false, if_true, if_false, Bool.false_eq_true, reduceIte] <;> rfl))), trivial⟩)
  have hb19R := hb19; try simp only [zz] at hb19
  refine pwp_seq_plain rfl fun K20 hK20 => p_e rfl (e_eq rfl rfl) (p_aS rfl (p_end (hK20 _ ?_))); clear hK20 K20
  refine pwp_cond rfl (fun hb21 => ?_) (fun hb21 => ?_)
  ·have hb21R := hb21; try simp only [zz] at hb21
   refine pwp_skip ?_
   exact seq_norm (hK17 _ ⟨rfl, rfl, rfl, rfl, rfl, trivial⟩ ⟨(congrArg PV.bool (show ((decide (m.kind = (2))) : Bool) = (if (decide (m.kind = (1))) = true then (decide (m.kind = (1))) else (if (decide (m.kind = (2))) = true then (decide (m.kind = (2))) else (if (decide (m.kind = (4))) = true then (decide (m.kind = (4))) else (decide (m.kind = (5)))))) by first | rfl | ((try rw [hb21R]) <;> (try rw [hb19R]) <;> (first | rfl | (simp only [Bool.and_true, Bool.and_false, Bool.true_and, Bool.false_and, Bool.or_true, Bool.or_false, Bool.true_or, Bool.false_or, Bool.not_true, Bool.not_false, if_true, if_false, Bool.false_eq_true, reduceIte] <;> rfl))) | (simp only [hb19R, hb21R, Bool.and_true, Bool.and_false, Bool.true_and, Bool.false_and, Bool.or_true, Bool.or_false, Bool.true_or, Bool.false_or, Bool.not_true, Bool.not_false, if_true, if_false, Bool.false_eq_true, reduceIte] <;> rfl))), trivial⟩)
  have hb21R := hb21; try simp only [zz] at hb21
  refine pwp_seq_plain rfl fun K22 hK22 => p_e rfl (e_eq rfl rfl) (p_aS rfl (p_end (hK22 _ ?_))); clear hK22 K22
  refine pwp_cond rfl (fun hb23 => ?_) (fun hb23 => ?_)
  ·have hb23R := hb23; try simp only [zz] at hb23
   refine pwp_skip ?_
   exact seq_norm (hK17 _ ⟨rfl, rfl, rfl, rfl, rfl, trivial⟩ ⟨(congrArg PV.bool (show ((decide (m.kind = (4))) : Bool) = (if (decide (m.kind = (1))) = true then (decide (m.kind = (1))) else (if (decide (m.kind = (2))) = true then (decide (m.kind = (2))) else (if (decide (m.kind = (4))) = true then (decide (m.kind = (4))) else (decide (m.kind = (5)))))) by first | rfl | ((try rw [hb23R]) <;> (try rw [hb21R]) <;> (try rw [hb19R]) <;> (first | rfl | (simp only [Bool.and_true, Bool.and_false, Bool.true_and, Bool.false_and, Bool.or_true, Bool.or_false, Bool.true_or, Bool.false_or, Bool.not_true, Bool.not_false, if_true, if_false, Bool.false_eq_true, reduceIte] <;> rfl))) | (simp only [hb19R, hb21R, hb23R, Bool.and_true, Bool.and_false, Bool.true_and, Bool.false_and, Bool.or_true, Bool.or_false, Bool.true_or, Bool.false_or, Bool.not_true, Bool.not_false, if_true, if_false, Bool.false_eq_true, reduceIte] <;> rfl))), trivial⟩)
  have hb23R := hb23; try simp only [zz] at hb23
  refine pwp_plain rfl fun K24 hK24 => p_e rfl (e_eq rfl rfl) (p_aS rfl (p_end (hK24 _ ?_))); clear hK24 K24
  exact seq_norm (hK17 _ ⟨rfl, rfl, rfl, rfl, rfl, trivial⟩ ⟨(congrArg PV.bool (show ((decide (m.kind = (5))) : Bool) = (if (decide (m.kind = (1))) = true then (decide (m.kind = (1))) else (if (decide (m.kind = (2))) = true then (decide (m.kind = (2))) else (if (decide (m.kind = (4))) = true then (decide (m.kind = (4))) else (decide (m.kind = (5)))))) by first | rfl | ((try rw [hb23R]) <;> (try rw [hb21R]) <;> (try rw [hb19R]) <;> (first | rfl | (simp only [Bool.and_true, Bool.and_false, Bool.true_and, Bool.false_and, Bool.or_true, Bool.or_false, Bool.true_or, Bool.false_or, Bool.not_true, Bool.not_false, if_true, if_false, Bool.false_eq_true, reduceIte] <;> rfl))) | (simp only [hb19R, hb21R, hb23R, Bool.and_true, Bool.and_false, Bool.true_and, Bool.false_and, Bool.or_true, Bool.or_false, Bool.true_or, Bool.false_or, Bool.not_true, Bool.not_false, if_true, if_false, Bool.false_eq_true, reduceIte] <;> rfl))), trivial⟩)
 refine pwp_cond rfl (fun hb25 => ?_) (fun hb25 => ?_)
 ·have hb25R := hb25; try simp only [zz] at hb25
  refine pwp_seq_cutG [] [(4, .bool ((decide (a.pz = b.pz)) && (((decide (a.py = b.py)) && (decide (a.px < b.px))) || ((decide (a.px = b.px)) && (decide (a.py < b.py))))))] (fun K26 hK26 => ?_) (fun r27 => ?_)
  ·skip
   refine pwp_gops rfl fun K28 hK28 => g_begin (g_e rfl (e_faQ pl3 rfl) (g_e rfl (e_lH (v := .sc _) rfl ((hset_ne (key_ne rfl)).trans (hset_self _ _ _)) rfl) (g_e rfl (e_faQ pl3 rfl) (g_e rfl (e_lH (v := .sc _) rfl (hset_self _ _ _) rfl) (g_e rfl (e_eq rfl rfl) (g_mS rfl rfl ?_))))))
   refine g_cases (fun hb29 => ?_) (fun hb29 => ?_)
   ·have hb29R := hb29; try simp only [zz] at hb29
    refine g_e rfl (e_faQ pl3 rfl) (g_e rfl (e_lH (v := .sc _) rfl ((hset_ne (key_ne rfl)).trans (hset_self _ _ _)) rfl) (g_e rfl (e_faQ pl3 rfl) (g_e rfl (e_lH (v := .sc _) rfl (hset_self _ _ _) rfl) (g_e rfl (e_eq rfl rfl) (g_mS rfl rfl ?_)))))
    refine g_cases (fun hb30 => ?_) (fun hb30 => ?_)
    ·have hb30R := hb30; try simp only [zz] at hb30
     refine g_e rfl (e_faQ pl3 rfl) (g_e rfl (e_lH (v := .sc _) rfl ((hset_ne (key_ne rfl)).trans (hset_self _ _ _)) rfl) (g_e rfl (e_faQ pl3 rfl) (g_e rfl (e_lH (v := .sc _) rfl (hset_self _ _ _) rfl) (g_e rfl (e_lt rfl rfl) (g_pT rfl rfl rfl (g_mS rfl rfl ?_))))))
     refine g_cases (fun hb31 => ?_) (fun hb31 => ?_)
     ·have hb31R := hb31; try simp only [zz] at hb31
      iterate 12 refine g_skip rfl rfl rfl ?_
      refine g_pT rfl rfl rfl (g_pT rfl rfl rfl (g_aS rfl rfl (g_end (ds := [60, 61, 62, 63, 64, 65, 66, 67, 68, 69, 70, 71, 72, 73, 74, 75, 76, 77, 78, 79, 80, 81, 82, 83, 84, 85]) rfl rfl (hK28 _ ?_)))); clear hK28 K28
      exact seq_norm (hK26 _ trivial ⟨(congrArg PV.bool (show (true : Bool) = ((decide (a.pz = b.pz)) && (((decide (a.py = b.py)) && (decide (a.px < b.px))) || ((decide (a.px = b.px)) && (decide (a.py < b.py))))) by first | rfl | ((try rw [hb31R]) <;> (try rw [hb30R]) <;> (try rw [hb29R]) <;> (first | rfl | (simp only [Bool.and_true, Bool.and_false, Bool.true_and, Bool.false_and, Bool.or_true, Bool.or_false, Bool.true_or, Bool.false_or, Bool.not_true, Bool.not_false, if_true, if_false, Bool.false_eq_true, reduceIte] <;> rfl))) | (simp only [hb29R, hb30R, hb31R, Bool.and_true, Bool.and_false, Bool.true_and, Bool.false_and, Bool.or_true, Bool.or_false, Bool.true_or, Bool.false_or, Bool.not_true, Bool.not_false, if_true, if_false, Bool.false_eq_true, reduceIte] <;> rfl))), trivial⟩)
     have hb31R := hb31; try simp only [zz] at hb31
     refine g_e rfl (e_faQ pl3 rfl) (g_e rfl (e_lH (v := .sc _) rfl ((hset_ne (key_ne rfl)).trans (hset_self _ _ _)) rfl) (g_e rfl (e_faQ pl3 rfl) (g_e rfl (e_lH (v := .sc _) rfl (hset_self _ _ _) rfl) (g_e rfl (e_eq rfl rfl) (g_mS rfl rfl ?_)))))
     refine g_cases (fun hb32 => ?_) (fun hb32 => ?_)
     ·have hb32R := hb32; try simp only [zz] at hb32
      refine g_e rfl (e_faQ pl3 rfl) (g_e rfl (e_lH (v := .sc _) rfl ((hset_ne (key_ne rfl)).trans (hset_self _ _ _)) rfl) (g_e rfl (e_faQ pl3 rfl) (g_e rfl (e_lH (v := .sc _) rfl (hset_self _ _ _) rfl) (g_e rfl (e_lt rfl rfl) (g_pT rfl rfl rfl (g_pF rfl rfl rfl (g_pT rfl rfl rfl ?_)))))))
      refine g_aS rfl rfl (g_end (ds := [60, 61, 62, 63, 64, 65, 66, 67, 68, 69, 70, 71, 72, 73, 74, 75, 76, 77, 78, 79, 80, 81, 82, 83, 84, 85]) rfl rfl (hK28 _ ?_)); clear hK28 K28
      exact seq_norm (hK26 _ trivial ⟨(congrArg PV.bool (show ((decide (a.py < b.py)) : Bool) = ((decide (a.pz = b.pz)) && (((decide (a.py = b.py)) && (decide (a.px < b.px))) || ((decide (a.px = b.px)) && (decide (a.py < b.py))))) by first | rfl | ((try rw [hb32R]) <;> (try rw [hb31R]) <;> (try rw [hb30R]) <;> (try rw [hb29R]) <;> (first | rfl | (simp only [Bool.and_true, Bool.and_false, Bool.true_and, Bool.false_and, Bool.or_true, Bool.or_false, Bool.true_or, Bool.false_or, Bool.not_true, Bool.not_false, if_true, if_false, Bool.false_eq_true, reduceIte] <;> rfl))) | (simp only [hb29R, hb30R, hb31R, hb32R, Bool.and_true, Bool.and_false, Bool.true_and, Bool.false_and, Bool.or_true, Bool.or_false, Bool.true_or, Bool.false_or, Bool.not_true, Bool.not_false, if_true, if_false, Bool.false_eq_true, reduceIte] <;> rfl))), trivial⟩)
     have hb32R := hb32; try simp only [zz] at hb32
     iterate 5 refine g_skip rfl rfl rfl ?_
     refine g_pF rfl rfl rfl (g_pF rfl rfl rfl (g_pT rfl rfl rfl (g_aS rfl rfl (g_end (ds := [60, 61, 62, 63, 64, 65, 66, 67, 68, 69, 70, 71, 72, 73, 74, 75, 76, 77, 78, 79, 80, 81, 82, 83, 84, 85]) rfl rfl (hK28 _ ?_))))); clear hK28 K28
     exact seq_norm (hK26 _ trivial ⟨(congrArg PV.bool (show (false : Bool) = ((decide (a.pz = b.pz)) && (((decide (a.py = b.py)) && (decide (a.px < b.px))) || ((decide (a.px = b.px)) && (decide (a.py < b.py))))) by first | rfl | ((try rw [hb32R]) <;> (try rw [hb31R]) <;> (try rw [hb30R]) <;> (try rw [hb29R]) <;> (first | rfl | (simp only [Bool.and_true, Bool.and_false, Bool.true_and, Bool.false_and, Bool.or_true, Bool.or_false, Bool.true_or, Bool.false_or, Bool.not_true, Bool.not_false, if_true, if_false, Bool.false_eq_true, reduceIte] <;> rfl))) | (simp only [hb29R, hb30R, hb31R, hb32R, Bool.and_true, Bool.and_false, Bool.true_and, Bool.false_and, Bool.or_true, Bool.or_false, Bool.true_or, Bool.false_or, Bool.not_true, Bool.not_false, if_true, if_false, Bool.false_eq_true, reduceIte] <;> rfl))), trivial⟩)
    have hb30R := hb30; try simp only [zz] at hb30
    iterate 5 refine g_skip rfl rfl rfl ?_
    refine g_pF rfl rfl rfl (g_mS rfl rfl (g_e rfl (e_faQ pl3 rfl) (g_e rfl (e_lH (v := .sc _) rfl ((hset_ne (key_ne rfl)).trans (hset_self _ _ _)) rfl) (g_e rfl (e_faQ pl3 rfl) (g_e rfl (e_lH (v := .sc _) rfl (hset_self _ _ _) rfl) (g_e rfl (e_eq rfl rfl) (g_mS rfl rfl ?_)))))))
    refine g_cases (fun hb33 => ?_) (fun hb33 => ?_)
    ·have hb33R := hb33; try simp only [zz] at hb33
     refine g_e rfl (e_faQ pl3 rfl) (g_e rfl (e_lH (v := .sc _) rfl ((hset_ne (key_ne rfl)).trans (hset_self _ _ _)) rfl) (g_e rfl (e_faQ pl3 rfl) (g_e rfl (e_lH (v := .sc _) rfl (hset_self _ _ _) rfl) (g_e rfl (e_lt rfl rfl) (g_pT rfl rfl rfl (g_pF rfl rfl rfl (g_pT rfl rfl rfl ?_)))))))
     refine g_aS rfl rfl (g_end (ds := [60, 61, 62, 63, 64, 65, 66, 67, 68, 69, 70, 71, 72, 73, 74, 75, 76, 77, 78, 79, 80, 81, 82, 83, 84, 85]) rfl rfl (hK28 _ ?_)); clear hK28 K28
     exact seq_norm (hK26 _ trivial ⟨(congrArg PV.bool (show ((decide (a.py < b.py)) : Bool) = ((decide (a.pz = b.pz)) && (((decide (a.py = b.py)) && (decide (a.px < b.px))) || ((decide (a.px = b.px)) && (decide (a.py < b.py))))) by first | rfl | ((try rw [hb33R]) <;> (try rw [hb30R]) <;> (try rw [hb29R]) <;> (first | rfl | (simp only [Bool.and_true, Bool.and_false, Bool.true_and, Bool.false_and, Bool.or_true, Bool.or_false, Bool.true_or, Bool.false_or, Bool.not_true, Bool.not_false, if_true, if_false, Bool.false_eq_true, reduceIte] <;> rfl))) | (simp only [hb29R, hb30R, hb33R, Bool.and_true, Bool.and_false, Bool.true_and, Bool.false_and, Bool.or_true, Bool.or_false, Bool.true_or, Bool.false_or, Bool.not_true, Bool.not_false, if_true, if_false, Bool.false_eq_true, reduceIte] <;> rfl))), trivial⟩)
    have hb33R := hb33; try simp only [zz] at hb33
    iterate 5 refine g_skip rfl rfl rfl ?_
    refine g_pF rfl rfl rfl (g_pF rfl rfl rfl (g_pT rfl rfl rfl (g_aS rfl rfl (g_end (ds := [60, 61, 62, 63, 64, 65, 66, 67, 68, 69, 70, 71, 72, 73, 74, 75, 76, 77, 78, 79, 80, 81, 82, 83, 84, 85]) rfl rfl (hK28 _ ?_))))); clear hK28 K28
    exact seq_norm (hK26 _ trivial ⟨(congrArg PV.bool (show (false : Bool) = ((decide (a.pz = b.pz)) && (((decide (a.py = b.py)) && (decide (a.px < b.px))) || ((decide (a.px = b.px)) && (decide (a.py < b.py))))) by first | rfl | ((try rw [hb33R]) <;> (try rw [hb30R]) <;> (try rw [hb29R]) <;> (first | rfl | (simp only [Bool.and_true, Bool.and_false, Bool.true_and, Bool.false_and, Bool.or_true, Bool.or_false, Bool.true_or, Bool.false_or, Bool.not_true, Bool.not_false, if_true, if_false, Bool.false_eq_true, reduceIte] <;> rfl))) | (simp only [hb29R, hb30R, hb33R, Bool.and_true, Bool.and_false, Bool.true_and, Bool.false_and, Bool.or_true, Bool.or_false, Bool.true_or, Bool.false_or, Bool.not_true, Bool.not_false, if_true, if_false, Bool.false_eq_true, reduceIte] <;> rfl))), trivial⟩)
   have hb29R := hb29; try simp only [zz] at hb29
   iterate 26 refine g_skip rfl rfl rfl ?_
   refine g_pF rfl rfl rfl (g_aS rfl rfl (g_end (ds := [60, 61, 62, 63, 64, 65, 66, 67, 68, 69, 70, 71, 72, 73, 74, 75, 76, 77, 78, 79, 80, 81, 82, 83, 84, 85]) rfl rfl (hK28 _ ?_))); clear hK28 K28
   exact seq_norm (hK26 _ trivial ⟨(congrArg PV.bool (show (false : Bool) = ((decide (a.pz = b.pz)) && (((decide (a.py = b.py)) && (decide (a.px < b.px))) || ((decide (a.px = b.px)) && (decide (a.py < b.py))))) by first | rfl | ((try rw [hb29R]) <;> (first | rfl | (simp only [Bool.and_true, Bool.and_false, Bool.true_and, Bool.false_and, Bool.or_true, Bool.or_false, Bool.true_or, Bool.false_or, Bool.not_true, Bool.not_false, if_true, if_false, Bool.false_eq_true, reduceIte] <;> rfl))) | (simp only [hb29R, Bool.and_true, Bool.and_false, Bool.true_and, Bool.false_and, Bool.or_true, Bool.or_false, Bool.true_or, Bool.false_or, Bool.not_true, Bool.not_false, if_true, if_false, Bool.false_eq_true, reduceIte] <;> rfl))), trivial⟩)
  refine pwp_ret (ret_block (ret_seq (end1 (v := .sc _) rfl (⟨congrArg PV.bool ?_, fun k' hk' => (hset_ne (old_ne hk' rfl)).trans ((hset_ne (old_ne hk' rfl)).trans ((hset_ne (old_ne hk' rfl)).trans ((hset_ne (old_ne hk' rfl)).trans ((hset_ne (old_ne hk' rfl)).trans ((hset_ne (old_ne hk' rfl)).trans (rfl))))))⟩))))
  rw [geoB_at ha hb]
  clear ha hb hm
  simp only [hmp] at *
  clear hmp
  rcases (by omega : m.kind = 0 ∨ m.kind = 1 ∨ m.kind = 2 ∨ m.kind = 3 ∨ m.kind = 4 ∨ m.kind = 5 ∨ m.kind = 6 ∨ m.kind = 7 ∨ m.kind = 8 ∨ m.kind = 9) with q2 | q2 | q2 | q2 | q2 | q2 | q2 | q2 | q2 | q2 <;> simp_all [geo2] <;> first | omega | (rw [Bool.eq_iff_iff]; simp; omega)
 have hb25R := hb25; try simp only [zz] at hb25
 refine pwp_seq_plain rfl fun K34 hK34 => p_e rfl (e_eq rfl rfl) (p_aS rfl (p_end (hK34 _ ?_))); clear hK34 K34
 refine pwp_cond rfl (fun hb35 => ?_) (fun hb35 => ?_)
 ·have hb35R := hb35; try simp only [zz] at hb35
  refine pwp_seq_cutG [] [(4, .bool ((decide (a.pz < b.pz)) && ((decide (a.px ≠ b.px)) || (decide (a.py ≠ b.py)))))] (fun K36 hK36 => ?_) (fun r37 => ?_)
  ·skip
   refine pwp_gops rfl fun K38 hK38 => g_begin (g_e rfl (e_faQ pl3 rfl) (g_e rfl (e_lH (v := .sc _) rfl ((hset_ne (key_ne rfl)).trans (hset_self _ _ _)) rfl) (g_e rfl (e_faQ pl3 rfl) (g_e rfl (e_lH (v := .sc _) rfl (hset_self _ _ _) rfl) (g_e rfl (e_lt rfl rfl) (g_mS rfl rfl ?_))))))
   refine g_cases (fun hb39 => ?_) (fun hb39 => ?_)
   ·have hb39R := hb39; try simp only [zz] at hb39
    refine g_e rfl (e_faQ pl3 rfl) (g_e rfl (e_lH (v := .sc _) rfl ((hset_ne (key_ne rfl)).trans (hset_self _ _ _)) rfl) (g_e rfl (e_faQ pl3 rfl) (g_e rfl (e_lH (v := .sc _) rfl (hset_self _ _ _) rfl) (g_e rfl (e_ne rfl rfl) (g_mS rfl rfl ?_)))))
    refine g_cases (fun hb40 => ?_) (fun hb40 => ?_)
    ·have hb40R := hb40; try simp only [zz] at hb40
     iterate 5 refine g_skip rfl rfl rfl ?_
     refine g_pT rfl rfl rfl (g_pT rfl rfl rfl (g_aS rfl rfl (g_end (ds := [95, 96, 97, 98, 99, 100, 101, 102, 103, 104, 105, 106]) rfl rfl (hK38 _ ?_)))); clear hK38 K38
     exact seq_norm (hK36 _ trivial ⟨(congrArg PV.bool (show (true : Bool) = ((decide (a.pz < b.pz)) && ((decide (a.px ≠ b.px)) || (decide (a.py ≠ b.py)))) by first | rfl | ((try rw [hb40R]) <;> (try rw [hb39R]) <;> (first | rfl | (simp only [Bool.and_true, Bool.and_false, Bool.true_and, Bool.false_and, Bool.or_true, Bool.or_false, Bool.true_or, Bool.false_or, Bool.not_true, Bool.not_false, if_true, if_false, Bool.false_eq_true, reduceIte] <;> rfl))) | (simp only [hb39R, hb40R, Bool.and_true, Bool.and_false, Bool.true_and, Bool.false_and, Bool.or_true, Bool.or_false, Bool.true_or, Bool.false_or, Bool.not_true, Bool.not_false, if_true, if_false, Bool.false_eq_true, reduceIte] <;> rfl))), trivial⟩)
    have hb40R := hb40; try simp only [zz] at hb40
    refine g_e rfl (e_faQ pl3 rfl) (g_e rfl (e_lH (v := .sc _) rfl ((hset_ne (key_ne rfl)).trans (hset_self _ _ _)) rfl) (g_e rfl (e_faQ pl3 rfl) (g_e rfl (e_lH (v := .sc _) rfl (hset_self _ _ _) rfl) (g_e rfl (e_ne rfl rfl) (g_pF rfl rfl rfl (g_pT rfl rfl rfl (g_aS rfl rfl ?_)))))))
    refine g_end (ds := [95, 96, 97, 98, 99, 100, 101, 102, 103, 104, 105, 106]) rfl rfl (hK38 _ ?_); clear hK38 K38
    exact seq_norm (hK36 _ trivial ⟨(congrArg PV.bool (show ((decide (a.py ≠ b.py)) : Bool) = ((decide (a.pz < b.pz)) && ((decide (a.px ≠ b.px)) || (decide (a.py ≠ b.py)))) by first | rfl | ((try rw [hb40R]) <;> (try rw [hb39R]) <;> (first | rfl | (simp only [Bool.and_true, Bool.and_false, Bool.true_and, Bool.false_and, Bool.or_true, Bool.or_false, Bool.true_or, Bool.false_or, Bool.not_true, Bool.not_false, if_true, if_false, Bool.false_eq_true, reduceIte] <;> rfl))) | (simp only [hb39R, hb40R, Bool.and_true, Bool.and_false, Bool.true_and, Bool.false_and, Bool.or_true, Bool.or_false, Bool.true_or, Bool.false_or, Bool.not_true, Bool.not_false, if_true, if_false, Bool.false_eq_true, reduceIte] <;> rfl))), trivial⟩)
   have hb39R := hb39; try simp only [zz] at hb39
   iterate 12 refine g_skip rfl rfl rfl ?_
   refine g_pF rfl rfl rfl (g_aS rfl rfl (g_end (ds := [95, 96, 97, 98, 99, 100, 101, 102, 103, 104, 105, 106]) rfl rfl (hK38 _ ?_))); clear hK38 K38
   exact seq_norm (hK36 _ trivial ⟨(congrArg PV.bool (show (false : Bool) = ((decide (a.pz < b.pz)) && ((decide (a.px ≠ b.px)) || (decide (a.py ≠ b.py)))) by first | rfl | ((try rw [hb39R]) <;> (first | rfl | (simp only [Bool.and_true, Bool.and_false, Bool.true_and, Bool.false_and, Bool.or_true, Bool.or_false, Bool.true_or, Bool.false_or, Bool.not_true, Bool.not_false, if_true, if_false, Bool.false_eq_true, reduceIte] <;> rfl))) | (simp only [hb39R, Bool.and_true, Bool.and_false, Bool.true_and, Bool.false_and, Bool.or_true, Bool.or_false, Bool.true_or, Bool.false_or, Bool.not_true, Bool.not_false, if_true, if_false, Bool.false_eq_true, reduceIte] <;> rfl))), trivial⟩)
  refine pwp_ret (ret_block (ret_seq (end1 (v := .sc _) rfl (⟨congrArg PV.bool ?_, fun k' hk' => (hset_ne (old_ne hk' rfl)).trans ((hset_ne (old_ne hk' rfl)).trans ((hset_ne (old_ne hk' rfl)).trans ((hset_ne (old_ne hk' rfl)).trans ((hset_ne (old_ne hk' rfl)).trans ((hset_ne (old_ne hk' rfl)).trans (rfl))))))⟩))))
  rw [geoB_at ha hb]
  clear ha hb hm
  simp only [hmp] at *
  clear hmp
  rcases (by omega : m.kind = 0 ∨ m.kind = 1 ∨ m.kind = 2 ∨ m.kind = 3 ∨ m.kind = 4 ∨ m.kind = 5 ∨ m.kind = 6 ∨ m.kind = 7 ∨ m.kind = 8 ∨ m.kind = 9) with q2 | q2 | q2 | q2 | q2 | q2 | q2 | q2 | q2 | q2 <;> simp_all [geo2] <;> first | omega | (rw [Bool.eq_iff_iff]; simp; omega)
 have hb35R := hb35; try simp only [zz] at hb35
 refine pwp_seq_plain rfl fun K41 hK41 => p_e rfl (e_eq rfl rfl) (p_aS rfl (p_end (hK41 _ ?_))); clear hK41 K41
 refine pwp_cond rfl (fun hb42 => ?_) (fun hb42 => ?_)
 ·have hb42R := hb42; try simp only [zz] at hb42
  refine pwp_seq_plain rfl fun K43 hK43 => p_e rfl (e_faQ [(0, 2, true), (2, 1, false)] rfl) (p_e rfl (e_lH (v := .map _) rfl ((hset_ne (key_ne rfl)).trans ((hset_ne (key_ne rfl)).trans ((hset_ne (key_ne rfl)).trans ((hset_ne (key_ne rfl)).trans ((hset_ne (key_ne rfl)).trans (hset_self _ _ _)))))) rfl) (p_e rfl (e_faQ pl3 rfl) (p_e rfl (e_lH (v := .sc _) rfl (hset_self _ _ _) rfl) (p_e rfl (e_faQ pl3 rfl) (p_e rfl (e_lH (v := .sc _) rfl ((hset_ne (key_ne rfl)).trans (hset_self _ _ _)) rfl) (p_e rfl (e_faQ pl3 rfl) ?_))))))
  refine p_e rfl (e_lH (v := .sc _) rfl ((hset_ne (key_ne rfl)).trans (hset_self _ _ _)) rfl) (p_e rfl (e_build (cs := Node.enc (⟨b.px, a.py, a.pz⟩ : Node)) (zs := [.int 0, .int 0, .int 0]) (pl := [(0, 1, false), (1, 1, false), (2, 1, false)]) (by kernel_rfl) (by kernel_rfl) (by kernel_rfl) rfl rfl (by exact ⟨by decide, rfl, Nat.le_of_ble_eq_true rfl, rfl, ⟨by decide, rfl, Nat.le_of_ble_eq_true rfl, rfl, ⟨by decide, rfl, Nat.le_of_ble_eq_true rfl, rfl, trivial⟩⟩⟩) rfl) (p_e rfl (e_lookOk (kt := 144) (et := 3) (f := kn) (g := PV.int) (a := (⟨b.px, a.py, a.pz⟩ : Node)) (l := mp) (z := 0) kn_eq kn_ok rfl rfl (MapAt.keep hm ((hset_ne (key_ne rfl)).trans ((hset_ne (key_ne rfl)).trans ((hset_ne (key_ne rfl)).trans ((hset_ne (key_ne rfl)).trans ((hset_ne (key_ne rfl)).trans ((hset_ne (key_ne rfl)).trans (rfl)))))))) (by kernel_rfl) (by kernel_rfl) (by first | rfl | kernel_rfl)) (p_e rfl (e_move (v := .tup _) rfl) (p_e rfl (e_ext (v := .sc _) rfl (by simp) rfl) (p_e rfl (e_ext (v := .sc _) rfl (by simp) rfl) (p_aS rfl (p_aS rfl ?_)))))))
  refine p_end (hK43 _ ?_); clear hK43 K43
  refine pwp_seq_plain rfl fun K44 hK44 => p_e rfl (e_faQ [(0, 2, true), (2, 1, false)] rfl) (p_e rfl (e_lH (v := .map _) rfl ((hset_ne (key_ne rfl)).trans ((hset_ne (key_ne rfl)).trans ((hset_ne (key_ne rfl)).trans ((hset_ne (key_ne rfl)).trans ((hset_ne (key_ne rfl)).trans (hset_self _ _ _)))))) rfl) (p_e rfl (e_faQ pl3 rfl) (p_e rfl (e_lH (v := .sc _) rfl ((hset_ne (key_ne rfl)).trans (hset_self _ _ _)) rfl) (p_e rfl (e_faQ pl3 rfl) (p_e rfl (e_lH (v := .sc _) rfl (hset_self _ _ _) rfl) (p_e rfl (e_faQ pl3 rfl) ?_))))))
  refine p_e rfl (e_lH (v := .sc _) rfl ((hset_ne (key_ne rfl)).trans (hset_self _ _ _)) rfl) (p_e rfl (e_build (cs := Node.enc (⟨a.px, b.py, a.pz⟩ : Node)) (zs := [.int 0, .int 0, .int 0]) (pl := [(0, 1, false), (1, 1, false), (2, 1, false)]) (by kernel_rfl) (by kernel_rfl) (by kernel_rfl) rfl rfl (by exact ⟨by decide, rfl, Nat.le_of_ble_eq_true rfl, rfl, ⟨by decide, rfl, Nat.le_of_ble_eq_true rfl, rfl, ⟨by decide, rfl, Nat.le_of_ble_eq_true rfl, rfl, trivial⟩⟩⟩) rfl) (p_e rfl (e_lookOk (kt := 144) (et := 3) (f := kn) (g := PV.int) (a := (⟨a.px, b.py, a.pz⟩ : Node)) (l := mp) (z := 0) kn_eq kn_ok rfl rfl (MapAt.keep hm ((hset_ne (key_ne rfl)).trans ((hset_ne (key_ne rfl)).trans ((hset_ne (key_ne rfl)).trans ((hset_ne (key_ne rfl)).trans ((hset_ne (key_ne rfl)).trans ((hset_ne (key_ne rfl)).trans (rfl)))))))) (by kernel_rfl) (by kernel_rfl) (by first | rfl | kernel_rfl)) (p_e rfl (e_move (v := .tup _) rfl) (p_e rfl (e_ext (v := .sc _) rfl (by simp) rfl) (p_e rfl (e_ext (v := .sc _) rfl (by simp) rfl) (p_aS rfl (p_aS rfl ?_)))))))
  refine p_end (hK44 _ ?_); clear hK44 K44
  refine pwp_seq_cutG [] [(4, .bool (((((decide (a.pz = b.pz)) && (decide (a.px < b.px))) && (decide (a.py < b.py))) && ((aGet (⟨b.px, a.py, a.pz⟩ : Node) mp).isSome)) && ((aGet (⟨a.px, b.py, a.pz⟩ : Node) mp).isSome)))] (fun K45 hK45 => ?_) (fun r46 => ?_)
  ·skip
   refine pwp_gops rfl fun K47 hK47 => g_begin (g_e rfl (e_faQ pl3 rfl) (g_e rfl (e_lH (v := .sc _) rfl ((hset_ne (key_ne rfl)).trans (hset_self _ _ _)) rfl) (g_e rfl (e_faQ pl3 rfl) (g_e rfl (e_lH (v := .sc _) rfl (hset_self _ _ _) rfl) (g_e rfl (e_eq rfl rfl) (g_mS rfl rfl ?_))))))
   refine g_cases (fun hb48 => ?_) (fun hb48 => ?_)
   ·have hb48R := hb48; try simp only [zz] at hb48
    refine g_e rfl (e_faQ pl3 rfl) (g_e rfl (e_lH (v := .sc _) rfl ((hset_ne (key_ne rfl)).trans (hset_self _ _ _)) rfl) (g_e rfl (e_faQ pl3 rfl) (g_e rfl (e_lH (v := .sc _) rfl (hset_self _ _ _) rfl) (g_e rfl (e_lt rfl rfl) (g_pT rfl rfl rfl (g_mS rfl rfl ?_))))))
    refine g_cases (fun hb49 => ?_) (fun hb49 => ?_)
    ·have hb49R := hb49; try simp only [zz] at hb49
     refine g_e rfl (e_faQ pl3 rfl) (g_e rfl (e_lH (v := .sc _) rfl ((hset_ne (key_ne rfl)).trans (hset_self _ _ _)) rfl) (g_e rfl (e_faQ pl3 rfl) (g_e rfl (e_lH (v := .sc _) rfl (hset_self _ _ _) rfl) (g_e rfl (e_lt rfl rfl) (g_pT rfl rfl rfl (g_mS rfl rfl ?_))))))
     refine g_cases (fun hb50 => ?_) (fun hb50 => ?_)
     ·have hb50R := hb50; try simp only [zz] at hb50
      refine g_mS rfl rfl (g_pT rfl rfl rfl (g_mS rfl rfl ?_))
      refine g_cases (fun hb51 => ?_) (fun hb51 => ?_)
      ·have hb51R := hb51; try simp only [zz] at hb51
       refine g_mS rfl rfl (g_pT rfl rfl rfl (g_aS rfl rfl (g_end (ds := [142, 143, 144, 145, 146, 149, 150, 151, 152, 153, 156, 159]) rfl rfl (hK47 _ ?_)))); clear hK47 K47
       exact seq_norm (hK45 _ trivial ⟨(congrArg PV.bool (show (((aGet (⟨a.px, b.py, a.pz⟩ : Node) mp).isSome) : Bool) = (((((decide (a.pz = b.pz)) && (decide (a.px < b.px))) && (decide (a.py < b.py))) && ((aGet (⟨b.px, a.py, a.pz⟩ : Node) mp).isSome)) && ((aGet (⟨a.px, b.py, a.pz⟩ : Node) mp).isSome)) by first | rfl | ((try rw [hb51R]) <;> (try rw [hb50R]) <;> (try rw [hb49R]) <;> (try rw [hb48R]) <;> (first | rfl | (simp only [Bool.and_true, Bool.and_false, Bool.true_and, Bool.false_and, Bool.or_true, Bool.or_false, Bool.true_or, Bool.false_or, Bool.not_true, Bool.not_false, if_true, if_false, Bool.false_eq_true, reduceIte] <;> rfl))) | (simp only [hb48R, hb49R, hb50R, hb51R, Bool.and_true, Bool.and_false, Bool.true_and, Bool.false_and, Bool.or_true, Bool.or_false, Bool.true_or, Bool.false_or, Bool.not_true, Bool.not_false, if_true, if_false, Bool.false_eq_true, reduceIte] <;> rfl))), trivial⟩)
      have hb51R := hb51; try simp only [zz] at hb51
      refine g_skip rfl rfl rfl (g_pF rfl rfl rfl (g_aS rfl rfl (g_end (ds := [142, 143, 144, 145, 146, 149, 150, 151, 152, 153, 156, 159]) rfl rfl (hK47 _ ?_)))); clear hK47 K47
      exact seq_norm (hK45 _ trivial ⟨(congrArg PV.bool (show (false : Bool) = (((((decide (a.pz = b.pz)) && (decide (a.px < b.px))) && (decide (a.py < b.py))) && ((aGet (⟨b.px, a.py, a.pz⟩ : Node) mp).isSome)) && ((aGet (⟨a.px, b.py, a.pz⟩ : Node) mp).isSome)) by first | rfl | ((try rw [hb51R]) <;> (try rw [hb50R]) <;> (try rw [hb49R]) <;> (try rw [hb48R]) <;> (first | rfl | (simp only [Bool.and_true, Bool.and_false, Bool.true_and, Bool.false_and, Bool.or_true, Bool.or_false, Bool.true_or, Bool.false_or, Bool.not_true, Bool.not_false, if_true, if_false, Bool.false_eq_true, reduceIte] <;> rfl))) | (simp only [hb48R, hb49R, hb50R, hb51R, Bool.and_true, Bool.and_false, Bool.true_and, Bool.false_and, Bool.or_true, Bool.or_false, Bool.true_or, Bool.false_or, Bool.not_true, Bool.not_false, if_true, if_false, Bool.false_eq_true, reduceIte] <;> rfl))), trivial⟩)
     have hb50R := hb50; try simp only [zz] at hb50
     refine g_skip rfl rfl rfl (g_pF rfl rfl rfl (g_mS rfl rfl (g_skip rfl rfl rfl (g_pF rfl rfl rfl (g_aS rfl rfl (g_end (ds := [142, 143, 144, 145, 146, 149, 150, 151, 152, 153, 156, 159]) rfl rfl (hK47 _ ?_))))))); clear hK47 K47
     exact seq_norm (hK45 _ trivial ⟨(congrArg PV.bool (show (false : Bool) = (((((decide (a.pz = b.pz)) && (decide (a.px < b.px))) && (decide (a.py < b.py))) && ((aGet (⟨b.px, a.py, a.pz⟩ : Node) mp).isSome)) && ((aGet (⟨a.px, b.py, a.pz⟩ : Node) mp).isSome)) by first | rfl | ((try rw [hb50R]) <;> (try rw [hb49R]) <;> (try rw [hb48R]) <;> (first | rfl | (simp only [Bool.and_true, Bool.and_false, Bool.true_and, Bool.false_and, Bool.or_true, Bool.or_false, Bool.true_or, Bool.false_or, Bool.not_true, Bool.not_false, if_true, if_false, Bool.false_eq_true, reduceIte] <;> rfl))) | (simp only [hb48R, hb49R, hb50R, Bool.and_true, Bool.and_false, Bool.true_and, Bool.false_and, Bool.or_true, Bool.or_false, Bool.true_or, Bool.false_or, Bool.not_true, Bool.not_false, if_true, if_false, Bool.false_eq_true, reduceIte] <;> rfl))), trivial⟩)
    have hb49R := hb49; try simp only [zz] at hb49
    iterate 5 refine g_skip rfl rfl rfl ?_
    refine g_pF rfl rfl rfl (g_mS rfl rfl (g_skip rfl rfl rfl (g_pF rfl rfl rfl (g_mS rfl rfl (g_skip rfl rfl rfl (g_pF rfl rfl rfl (g_aS rfl rfl ?_)))))))
    refine g_end (ds := [142, 143, 144, 145, 146, 149, 150, 151, 152, 153, 156, 159]) rfl rfl (hK47 _ ?_); clear hK47 K47
    exact seq_norm (hK45 _ trivial ⟨(congrArg PV.bool (show (false : Bool) = (((((decide (a.pz = b.pz)) && (decide (a.px < b.px))) && (decide (a.py < b.py))) && ((aGet (⟨b.px, a.py, a.pz⟩ : Node) mp).isSome)) && ((aGet (⟨a.px, b.py, a.pz⟩ : Node) mp).isSome)) by first | rfl | ((try rw [hb49R]) <;> (try rw [hb48R]) <;> (first | rfl | (simp only [Bool.and_true, Bool.and_false, Bool.true_and, Bool.false_and, Bool.or_true, Bool.or_false, Bool.true_or, Bool.false_or, Bool.not_true, Bool.not_false, if_true, if_false, Bool.false_eq_true, reduceIte] <;> rfl))) | (simp only [hb48R, hb49R, Bool.and_true, Bool.and_false, Bool.true_and, Bool.false_and, Bool.or_true, Bool.or_false, Bool.true_or, Bool.false_or, Bool.not_true, Bool.not_false, if_true, if_false, Bool.false_eq_true, reduceIte] <;> rfl))), trivial⟩)
   have hb48R := hb48; try simp only [zz] at hb48
   iterate 5 refine g_skip rfl rfl rfl ?_
   refine g_pF rfl rfl rfl (g_mS rfl rfl ?_)
   iterate 5 refine g_skip rfl rfl rfl ?_
   refine g_pF rfl rfl rfl (g_mS rfl rfl (g_skip rfl rfl rfl (g_pF rfl rfl rfl (g_mS rfl rfl (g_skip rfl rfl rfl (g_pF rfl rfl rfl (g_aS rfl rfl ?_)))))))
   refine g_end (ds := [142, 143, 144, 145, 146, 149, 150, 151, 152, 153, 156, 159]) rfl rfl (hK47 _ ?_); clear hK47 K47
   exact seq_norm (hK45 _ trivial ⟨(congrArg PV.bool (show (false : Bool) = (((((decide (a.pz = b.pz)) && (decide (a.px < b.px))) && (decide (a.py < b.py))) && ((aGet (⟨b.px, a.py, a.pz⟩ : Node) mp).isSome)) && ((aGet (⟨a.px, b.py, a.pz⟩ : Node) mp).isSome)) by first | rfl | ((try rw [hb48R]) <;> (first | rfl | (simp only [Bool.and_true, Bool.and_false, Bool.true_and, Bool.false_and, Bool.or_true, Bool.or_false, Bool.true_or, Bool.false_or, Bool.not_true, Bool.not_false, if_true, if_false, Bool.false_eq_true, reduceIte] <;> rfl))) | (simp only [hb48R, Bool.and_true, Bool.and_false, Bool.true_and, Bool.false_and, Bool.or_true, Bool.or_false, Bool.true_or, Bool.false_or, Bool.not_true, Bool.not_false, if_true, if_false, Bool.false_eq_true, reduceIte] <;> rfl))), trivial⟩)
  refine pwp_ret (ret_block (ret_seq (end1 (v := .sc _) rfl (⟨congrArg PV.bool ?_, fun k' hk' => (hset_ne (old_ne hk' rfl)).trans ((hset_ne (old_ne hk' rfl)).trans ((hset_ne (old_ne hk' rfl)).trans ((hset_ne (old_ne hk' rfl)).trans ((hset_ne (old_ne hk' rfl)).trans ((hset_ne (old_ne hk' rfl)).trans (rfl))))))⟩))))
  rw [geoB_at ha hb]
  clear ha hb hm
  simp only [hmp] at *
  clear hmp
  rcases (by omega : m.kind = 0 ∨ m.kind = 1 ∨ m.kind = 2 ∨ m.kind = 3 ∨ m.kind = 4 ∨ m.kind = 5 ∨ m.kind = 6 ∨ m.kind = 7 ∨ m.kind = 8 ∨ m.kind = 9) with q2 | q2 | q2 | q2 | q2 | q2 | q2 | q2 | q2 | q2 <;> simp_all [geo2] <;> first | omega | (rw [Bool.eq_iff_iff]; simp; omega)
 have hb42R := hb42; try simp only [zz] at hb42
 refine pwp_skip (block_norm (seq_norm (hK4 _ ?_))); clear hK4 K4
 refine pwp_seq_plain rfl fun K52 hK52 => p_e rfl (e_faQ pl3 rfl) (p_e rfl (e_lH (v := .sc _) rfl ((hset_ne (key_ne rfl)).trans ((hset_ne (key_ne rfl)).trans ((hset_ne (key_ne rfl)).trans ((hset_ne (key_ne rfl)).trans (hset_self _ _ _))))) rfl) (p_e rfl (e_faQ pl3 rfl) (p_e rfl (e_lH (v := .sc _) rfl ((hset_ne (key_ne rfl)).trans ((hset_ne (key_ne rfl)).trans ((hset_ne (key_ne rfl)).trans ((hset_ne (key_ne rfl)).trans (hset_self _ _ _))))) rfl) (p_e rfl (e_eq rfl rfl) (p_aS rfl (p_end (hK52 _ ?_))))))); clear hK52 K52
 refine pwp_ret (end1 (v := .sc _) rfl (⟨congrArg PV.bool ?_, fun k' hk' => (hset_ne (old_ne hk' rfl)).trans ((hset_ne (old_ne hk' rfl)).trans ((hset_ne (old_ne hk' rfl)).trans ((hset_ne (old_ne hk' rfl)).trans ((hset_ne (old_ne hk' rfl)).trans ((hset_ne (old_ne hk' rfl)).trans (rfl))))))⟩))
 rw [geoB_at ha hb]
 clear ha hb hm
 simp only [hmp] at *
 clear hmp
 rcases (by omega : m.kind = 0 ∨ m.kind = 1 ∨ m.kind = 2 ∨ m.kind = 3 ∨ m.kind = 4 ∨ m.kind = 5 ∨ m.kind = 6 ∨ m.kind = 7 ∨ m.kind = 8 ∨ m.kind = 9) with q2 | q2 | q2 | q2 | q2 | q2 | q2 | q2 | q2 | q2 <;> simp_all [geo2] <;> first | omega | (rw [Bool.eq_iff_iff]; simp; omega)

end Go.Proofs.Ytjmjiegplnfiiaa
