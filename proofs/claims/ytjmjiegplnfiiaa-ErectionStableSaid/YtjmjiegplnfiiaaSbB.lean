import Derived.Test.YtjmjiegplnfiiaaSb4
import Derived.Test.YtjmjiegplnfiiaaCrwA
import Derived.Test.YtjmjiegplnfiiaaSfB
/- Loose standards, as the document tells them. No conditions. -/
set_option linter.unusedSimpArgs false
set_option linter.unusedVariables false
set_option maxRecDepth 100000
namespace Go.Proofs.Ytjmjiegplnfiiaa
open Go Go.Pv
def mG (s : Scaffold) (z : Int) : Member := s.members.getD z.toNat default
/-- What holds a member: a tie or an anchor on its line, no higher than its foot, and near enough to its top. -/
def hrB (s : Scaffold) (w : Int) (m y : Member) : Bool := decide ((y.kind = 9 ∨ y.kind = 8) ∧ lnA s y.a = lnA s m.a) && (decide (zA s y.a ≤ zA s m.a) && decide (zA s m.b - zA s y.a ≤ w))
def hzB (s : Scaffold) (w : Int) (m : Member) (z : Int) : Bool := decide (zA s (mG s z).a ≤ zA s m.a) && decide (zA s m.b ≤ zA s (mG s z).a + w)
def lsB (s : Scaffold) (w : Int) (m : Member) : Bool := decide (m.kind = 0) && !(s.members.any (hrB s w m))
def stbX (s : Scaffold) (w : Int) : Int × Int := if scfE s ≠ 0 then (0, scfE s) else if ¬ (0 ≤ w ∧ w ≤ 1000000) then (0, 2) else (ixA (lsB s w) s.members, 0)
section
variable {s : Scaffold} {w : Int} {m y : Member} {n a b : Node} {k j : Nat} {z : Int} {b0 : Bool}
theorem any_range {α : Type} [Inhabited α] {l : List α} {f : α → Bool} : (List.range l.length).any (fun i => f (l.getD i default)) = l.any f := by
 rw [Bool.eq_iff_iff, List.any_eq_true, List.any_eq_true]
 constructor
 · rintro ⟨i, hi, h⟩
   have hi2 : i < l.length := List.mem_range.1 hi
   rw [List.getD_eq_getElem?_getD, List.getElem?_eq_getElem hi2] at h
   exact ⟨_, List.getElem_mem hi2, h⟩
 · rintro ⟨x, hx, h⟩
   obtain ⟨i, hi, rfl⟩ := List.getElem_of_mem hx
   exact ⟨i, List.mem_range.2 hi, by rw [List.getD_eq_getElem?_getD, List.getElem?_eq_getElem hi]; exact h⟩
theorem hold_any : (hldL s s.members.length (lnA s m.a)).any (hzB s w m) = s.members.any (hrB s w m) := by
 rw [← any_range (l := s.members), hldL, List.any_map, List.any_filter]
 congr 1
 funext i
 show (hldB s (lnA s m.a) i && hzB s w m (i : Int)) = hrB s w m (s.members.getD i default)
 have e : mG s (i : Int) = s.members.getD i default := rfl
 rw [hldB, hzB, hrB, e]
 congr 2
 rw [Bool.eq_iff_iff, decide_eq_true_eq, decide_eq_true_eq]
 constructor <;> intro h <;> omega
theorem hr_1 (h : ¬ (y.kind = 9 ∨ y.kind = 8)) : hrB s w m y = false := by
 rw [hrB, decide_eq_false (fun q => h q.1)]; rfl
theorem hr_2 (h : ¬ lnA s y.a = lnA s m.a) : hrB s w m y = false := by
 rw [hrB, decide_eq_false (fun q => h q.2)]; rfl
theorem hr_3 (h : ¬ zA s y.a ≤ zA s m.a) : hrB s w m y = false := by
 rw [hrB, decide_eq_false h]; simp
theorem hr_4 (h : ¬ zA s m.b - zA s y.a ≤ w) : hrB s w m y = false := by
 rw [hrB, decide_eq_false h]; simp
theorem hr_t (h1 : y.kind = 9 ∨ y.kind = 8) (h2 : lnA s y.a = lnA s m.a) (h3 : zA s y.a ≤ zA s m.a) (h4 : zA s m.b - zA s y.a ≤ w) : hrB s w m y = true := by
 rw [hrB, decide_eq_true ⟨h1, h2⟩, decide_eq_true h3, decide_eq_true h4]; rfl
theorem ln_eq (ha : s.nodes[m.a.toNat]? = some a) (hn : s.nodes[y.a.toNat]? = some n) : decide (a.px = n.px ∧ a.py = n.py) = decide (lnA s y.a = lnA s m.a) := by
 rw [lnA_at ha, lnA_at hn, Bool.eq_iff_iff, decide_eq_true_eq, decide_eq_true_eq]
 constructor
 · rintro ⟨h1, h2⟩; rw [h1, h2]
 · intro h; exact ⟨(congrArg Prod.fst h).symm, (congrArg Prod.snd h).symm⟩
theorem lo_f (hy : s.members[k]? = some y) (h : hrB s w m y = true) : false = !(s.members.any (hrB s w m)) := by
 rw [List.any_eq_true.2 ⟨y, List.mem_of_getElem? hy, h⟩]; rfl
theorem lo_t (hin : ∀ i, i < k → ∀ y, s.members[i]? = some y → hrB s w m y = false) (hk : s.members.length ≤ k) : true = !(s.members.any (hrB s w m)) := by
 have : s.members.any (hrB s w m) = false := by
   rw [List.any_eq_false]
   intro y hy
   obtain ⟨i, hi, rfl⟩ := List.getElem_of_mem hy
   rw [hin i (by omega) _ (List.getElem?_eq_getElem hi)]; decide
 rw [this]; rfl
theorem ls_k (h : ¬ m.kind = 0) : lsB s w m = false := by rw [lsB, decide_eq_false h]; rfl
theorem nod_b {i : Nat} (hs : scfE s = 0) (hn : s.nodes[i]? = some n) : (-1000000 ≤ n.px ∧ n.px ≤ 1000000) ∧ (-1000000 ≤ n.py ∧ n.py ≤ 1000000) ∧ (-1000000 ≤ n.pz ∧ n.pz ≤ 1000000) := by
 by_cases h1 : 1000 < s.nodes.length ∨ 4000 < s.members.length
 · rw [← scfE_8 h1] at hs; cases hs
 by_cases h2 : frsF (nodE s.nodes) 0 s.nodes = 0
 · have h3 := frs_all (E := nodE s.nodes) _ _ h2 i n hn
   cases h4 : spcB n with
   | false => rw [nodE_2 h4] at h3; cases h3
   | true => exact spc_b h4
 · rw [← scfE_n h1 rfl h2] at hs; exact absurd hs h2
theorem zA_b (hs : scfE s = 0) (hz : 0 ≤ z ∧ z < (s.nodes.length : Int)) : -1000000 ≤ zA s z ∧ zA s z ≤ 1000000 := by
 obtain ⟨n, hn⟩ := node_ex hz
 rw [zA_at hn]; exact (nod_b hs hn).2.2
/-! ### The found one, while the list is gone through -/
theorem tk_s {L : List Int} (hz : L[j]? = some z) {f : Int → Bool} : (L.take (j + 1)).any f = ((L.take j).any f || f z) := by
 rw [List.take_add_one, hz, List.any_append]; simp
theorem fo_1 {L : List Int} (hz : L[j]? = some z) (hb : b0 = (L.take j).any (hzB s w m)) (h : b0 = true) : true = (L.take (j + 1)).any (hzB s w m) := by
 rw [tk_s hz, ← hb, h]; rfl
theorem fo_2 {L : List Int} (hz : L[j]? = some z) (hb : b0 = (L.take j).any (hzB s w m)) (h : b0 = false) (h2 : zA s (mG s z).a ≤ zA s m.a) : decide (zA s m.b ≤ zA s (mG s z).a + w) = (L.take (j + 1)).any (hzB s w m) := by
 rw [tk_s hz, ← hb, h, hzB, decide_eq_true h2]; rfl
theorem fo_3 {L : List Int} (hz : L[j]? = some z) (hb : b0 = (L.take j).any (hzB s w m)) (h : b0 = false) (h2 : ¬ zA s (mG s z).a ≤ zA s m.a) : false = (L.take (j + 1)).any (hzB s w m) := by
 rw [tk_s hz, ← hb, h, hzB, decide_eq_false h2]; rfl
theorem fo_f (hb : b0 = ((hldL s s.members.length (lnA s m.a)).take j).any (hzB s w m)) (hj : (hldL s s.members.length (lnA s m.a)).length ≤ j) (h : b0 = true) : lsB s w m = false := by
 rw [List.take_of_length_le hj, hold_any, h] at hb
 rw [lsB, ← hb]; simp
theorem fo_t (hb : b0 = ((hldL s s.members.length (lnA s m.a)).take j).any (hzB s w m)) (hj : (hldL s s.members.length (lnA s m.a)).length ≤ j) (hk : m.kind = 0) (h : b0 = false) : lsB s w m = true := by
 rw [List.take_of_length_le hj, hold_any, h] at hb
 rw [lsB, ← hb, decide_eq_true hk]; rfl
theorem hld_at {a : Int × Int} (hz : (hldL s k a)[j]? = some z) : 0 ≤ z ∧ z < (k : Int) := by
 have h1 := List.mem_of_getElem? hz
 obtain ⟨i, hi, rfl⟩ := List.mem_map.1 h1
 have := List.mem_range.1 (List.mem_filter.1 hi).1
 omega
theorem ls_r (h : m.kind = 0) (h2 : (!(s.members.any (hrB s w m))) = true) : lsB s w m = true := by rw [lsB, decide_eq_true h, h2]; rfl
theorem ls_n (h2 : (!(s.members.any (hrB s w m))) = false) : lsB s w m = false := by rw [lsB, h2]; simp
end

theorem fr125 : (inFrame Try.f125.ntmps (Try.f125.body.getD .skip) && Try.f125.results.toList.all (resScope Try.f125.ntmps)) = true := by kernel_rfl
theorem lowC (s : Scaffold) (m : Member) (n : Node) (hz : 0 ≤ m.a ∧ m.a < (s.nodes.length : Int)) (hn : s.nodes[m.a.toNat]? = some n) : PCalls Try.prog 125 [.agg s.enc, .agg m.enc] (.agg n.enc) := by
 refine PCalls.of_code Try.func125 rfl rfl (by kernel_rfl) mixed fr125 (by show _ ≤ 11; simp) (.agg _ (Node.pure _)) (pwp_seq_plain rfl fun K1 hK1 => p_new rfl (e_box (n := 2) rfl rfl) ⟨rfl, by decide⟩ (p_new rfl (e_box (n := 3) rfl rfl) ⟨rfl, by decide⟩ (p_new rfl (e_alloc (cs := [.int 0, .int 0, .int 0]) (n := 3) (by kernel_rfl) rfl (by decide)) (ob_alloc (by decide)) (p_end (hK1 _ ?_))))); clear hK1 K1
 refine pwp_seq_plain rfl fun K2 hK2 => p_e rfl (e_faQ pl2 rfl) (p_e rfl (e_lH (v := .lit _ _ _) rfl ((hset_ne (key_ne rfl)).trans ((hset_ne (key_ne rfl)).trans (hset_self _ _ _))) rfl) (p_e rfl (e_faQ pl3 rfl) (p_e rfl (e_lH (v := .sc _) rfl ((hset_ne (key_ne rfl)).trans (hset_self _ _ _)) rfl) (p_e rfl (e_ixL rfl rfl) (p_e rfl (e_loadA (n := 3) rfl (by kernel_rfl) (by kernel_rfl) (by kernel_rfl) (by first | omega | (simp only [List.length_map]; omega)) (by decide) (by first | exact agg_map hn rfl)) (p_store rfl (e_storeA rfl (hset_self _ _ _) rfl rfl rfl (by kernel_rfl) rfl (by kernel_rfl)) trivial ?_))))))
 refine p_end (hK2 _ ?_); clear hK2 K2
 refine pwp_ret (endC rfl (hset_self _ _ _) (by kernel_rfl) (by kernel_rfl) (by kernel_rfl) rfl ?_)
 exact out_agg rfl fun p hp => (node_clean n p hp).1

theorem fr126 : (inFrame Try.f126.ntmps (Try.f126.body.getD .skip) && Try.f126.results.toList.all (resScope Try.f126.ntmps)) = true := by kernel_rfl
theorem highC (s : Scaffold) (m : Member) (n : Node) (hz : 0 ≤ m.b ∧ m.b < (s.nodes.length : Int)) (hn : s.nodes[m.b.toNat]? = some n) : PCalls Try.prog 126 [.agg s.enc, .agg m.enc] (.agg n.enc) := by
 refine PCalls.of_code Try.func126 rfl rfl (by kernel_rfl) mixed fr126 (by show _ ≤ 11; simp) (.agg _ (Node.pure _)) (pwp_seq_plain rfl fun K1 hK1 => p_new rfl (e_box (n := 2) rfl rfl) ⟨rfl, by decide⟩ (p_new rfl (e_box (n := 3) rfl rfl) ⟨rfl, by decide⟩ (p_new rfl (e_alloc (cs := [.int 0, .int 0, .int 0]) (n := 3) (by kernel_rfl) rfl (by decide)) (ob_alloc (by decide)) (p_end (hK1 _ ?_))))); clear hK1 K1
 refine pwp_seq_plain rfl fun K2 hK2 => p_e rfl (e_faQ pl2 rfl) (p_e rfl (e_lH (v := .lit _ _ _) rfl ((hset_ne (key_ne rfl)).trans ((hset_ne (key_ne rfl)).trans (hset_self _ _ _))) rfl) (p_e rfl (e_faQ pl3 rfl) (p_e rfl (e_lH (v := .sc _) rfl ((hset_ne (key_ne rfl)).trans (hset_self _ _ _)) rfl) (p_e rfl (e_ixL rfl rfl) (p_e rfl (e_loadA (n := 3) rfl (by kernel_rfl) (by kernel_rfl) (by kernel_rfl) (by first | omega | (simp only [List.length_map]; omega)) (by decide) (by first | exact agg_map hn rfl)) (p_store rfl (e_storeA rfl (hset_self _ _ _) rfl rfl rfl (by kernel_rfl) rfl (by kernel_rfl)) trivial ?_))))))
 refine p_end (hK2 _ ?_); clear hK2 K2
 refine pwp_ret (endC rfl (hset_self _ _ _) (by kernel_rfl) (by kernel_rfl) (by kernel_rfl) rfl ?_)
 exact out_agg rfl fun p hp => (node_clean n p hp).1

theorem fr127 : (inFrame Try.f127.ntmps (Try.f127.body.getD .skip) && Try.f127.results.toList.all (resScope Try.f127.ntmps)) = true := by kernel_rfl
theorem inLineC (a n : Node) : PCalls Try.prog 127 [.agg a.enc, .agg n.enc] (.bool (decide (a.px = n.px ∧ a.py = n.py))) := by
 refine PCalls.of_code Try.func127 rfl rfl (by kernel_rfl) mixed fr127 (by show _ ≤ 17; simp) (.sc _) (pwp_seq_plain rfl fun K1 hK1 => p_new rfl (e_box (n := 3) rfl rfl) ⟨rfl, by decide⟩ (p_new rfl (e_box (n := 3) rfl rfl) ⟨rfl, by decide⟩ (p_aS rfl (p_end (hK1 _ ?_))))); clear hK1 K1
 refine pwp_seq_gops rfl fun K2 hK2 => g_begin (g_e rfl (e_faQ pl3 rfl) (g_e rfl (e_lH (v := .sc _) rfl ((hset_ne (key_ne rfl)).trans (hset_self _ _ _)) rfl) (g_e rfl (e_faQ pl3 rfl) (g_e rfl (e_lH (v := .sc _) rfl (hset_self _ _ _) rfl) (g_e rfl (e_eq rfl rfl) (g_mS rfl rfl ?_))))))
 refine g_cases (fun hb3 => ?_) (fun hb3 => ?_)
 ·have hb3R := hb3; try simp only [zz] at hb3
  refine g_e rfl (e_faQ pl3 rfl) (g_e rfl (e_lH (v := .sc _) rfl ((hset_ne (key_ne rfl)).trans (hset_self _ _ _)) rfl) (g_e rfl (e_faQ pl3 rfl) (g_e rfl (e_lH (v := .sc _) rfl (hset_self _ _ _) rfl) (g_e rfl (e_eq rfl rfl) (g_pT rfl rfl rfl (g_aS rfl rfl (g_end (ds := [11, 12, 13, 14, 15]) rfl rfl (hK2 _ ?_)))))))); clear hK2 K2
  refine pwp_ret (end1 (v := .sc _) rfl ?_)
  exact out_b (by first | (exact (decide_eq_false (fun q => absurd q.1 (by assumption))).symm) | (rw [Bool.eq_iff_iff]; simp only [decide_eq_true_eq]; simp_all))
 ·have hb3R := hb3; try simp only [zz] at hb3
  iterate 5 refine g_skip rfl rfl rfl ?_
  refine g_pF rfl rfl rfl (g_aS rfl rfl (g_end (ds := [11, 12, 13, 14, 15]) rfl rfl (hK2 _ ?_))); clear hK2 K2
  refine pwp_ret (end1 (v := .sc _) rfl ?_)
  exact out_b (by first | (exact (decide_eq_false (fun q => absurd q.1 (by assumption))).symm) | (rw [Bool.eq_iff_iff]; simp only [decide_eq_true_eq]; simp_all))

theorem fr106 : (inFrame Try.f106.ntmps (Try.f106.body.getD .skip) && Try.f106.results.toList.all (resScope Try.f106.ntmps)) = true := by kernel_rfl
theorem looseC (s : Scaffold) (m : Member) (w : Int) (hs1 : s.nodes.length ≤ 30) (hs2 : s.members.length ≤ 40) (hsc : scfE s = 0) (hma : 0 ≤ m.a ∧ m.a < (s.nodes.length : Int)) (hmb : 0 ≤ m.b ∧ m.b < (s.nodes.length : Int)) : PCalls Try.prog 106 [.agg s.enc, .agg m.enc, .int w] (.bool (!(s.members.any (hrB s w m)))) := by
 refine PCalls.of_code Try.func106 rfl rfl (by kernel_rfl) mixed fr106 (by show _ ≤ 62; simp) (.sc _) ?_
 obtain ⟨a, hna⟩ := node_ex hma
 obtain ⟨b, hnb⟩ := node_ex hmb
 have hba := nod_b hsc hna; have hbb := nod_b hsc hnb
 have hza := zA_at hna; have hzb := zA_at hnb
 refine pwp_seq_plain rfl fun K1 hK1 => p_new rfl (e_box (n := 2) rfl rfl) ⟨rfl, by decide⟩ (p_new rfl (e_box (n := 3) rfl rfl) ⟨rfl, by decide⟩ (p_aS rfl (p_end (hK1 _ ?_)))); clear hK1 K1
 refine pwp_seq_gops rfl fun K2 hK2 => s_begin (s_step [3] (by simp) rfl rfl rfl rfl (e_loadHA (cs := Scaffold.enc (s)) (n := 2) rfl ((hset_ne (key_ne rfl)).trans (hset_self _ _ _)) (by kernel_rfl) (by kernel_rfl) (by kernel_rfl) (by exact Nat.zero_lt_one) (by decide) rfl) trivial (s_step [4] (by simp) rfl rfl rfl rfl (e_loadHA (cs := Member.enc (m)) (n := 3) rfl (hset_self _ _ _) (by kernel_rfl) (by kernel_rfl) (by kernel_rfl) (by exact Nat.zero_lt_one) (by decide) rfl) trivial (s_call (args := [.agg _, .agg _]) [] (by intro k hk; simp [keysOf, Go.Pv.keyOf, Member.enc, Scaffold.enc] at hk; try (subst hk; simp)) rfl rfl rfl rfl (.cons (inn_agg (Scaffold.pure _)) (.cons (inn_agg (Member.pure _)) .nil)) (lowC s m a hma hna) (s_step [3] (by simp) rfl rfl rfl rfl (e_loadHA (cs := Scaffold.enc (s)) (n := 2) rfl ((hset_ne (key_ne rfl)).trans (hset_self _ _ _)) (by kernel_rfl) (by kernel_rfl) (by kernel_rfl) (by exact Nat.zero_lt_one) (by decide) rfl) trivial (s_step [4] (by simp) rfl rfl rfl rfl (e_loadHA (cs := Member.enc (m)) (n := 3) rfl (hset_self _ _ _) (by kernel_rfl) (by kernel_rfl) (by kernel_rfl) (by exact Nat.zero_lt_one) (by decide) rfl) trivial (s_call (args := [.agg _, .agg _]) [] (by intro k hk; simp [keysOf, Go.Pv.keyOf, Member.enc, Scaffold.enc] at hk; try (subst hk; simp)) rfl rfl rfl rfl (.cons (inn_agg (Scaffold.pure _)) (.cons (inn_agg (Member.pure _)) .nil)) (highC s m b hmb hnb) ?_))))))
 refine s_new [] (by simp) rfl rfl rfl rfl (e_alloc (cs := [.int 0, .int 0, .int 0]) (n := 3) (by kernel_rfl) rfl (by decide)) (ob_alloc (by decide)) (s_new [] (by simp) rfl rfl rfl rfl (e_alloc (cs := [.int 0, .int 0, .int 0]) (n := 3) (by kernel_rfl) rfl (by decide)) (ob_alloc (by decide)) (s_store [7] (by simp) rfl rfl (e_storeA rfl ((hset_ne (key_ne rfl)).trans (hset_self _ _ _)) rfl rfl rfl (by kernel_rfl) rfl (by kernel_rfl)) trivial (s_store [8] (by simp) rfl rfl (e_storeA rfl ((hset_ne (key_ne rfl)).trans (hset_self _ _ _)) rfl rfl rfl (by kernel_rfl) rfl (by kernel_rfl)) trivial (s_end (ds := []) (by kernel_rfl) (by kernel_rfl) (hK2 _ ?_))))); clear hK2 K2
 refine pwp_seq_seq (pwp_seq_plain rfl fun K3 hK3 => p_aS rfl (p_end (hK3 _ ?_))); clear hK3 K3
 refine pwp_seq_block fun K4 hK4 => pwp_loopR (α := Nat) [2, 3, 7, 8] (fun (k : Nat) => [(9, .int (k))]) (fun (k : Nat) (h : Heap) (_ : Nat → Nat) => ((k) ≤ s.members.length) ∧ (∀ i, i < (k) → ∀ y, s.members[i]? = some y → hrB s w m y = false) ∧ (h (3, 0) = some (.rows 2 [Scaffold.enc s])) ∧ (h (7, 0) = some (.rows 3 [Node.enc a])) ∧ (h (8, 0) = some (.rows 3 [Node.enc b]))) (fun (k : Nat) => s.members.length - (k)) (0) (by exact ⟨rfl, trivial⟩) (by exact ⟨by exact Nat.zero_le _, by exact nx_0, ((hset_ne (key_ne rfl)).trans ((hset_ne (key_ne rfl)).trans ((hset_ne (key_ne rfl)).trans ((hset_ne (key_ne rfl)).trans ((hset_ne (key_ne rfl)).trans (hset_self _ _ _)))))), ((hset_ne (key_ne rfl)).trans (hset_self _ _ _)), (hset_self _ _ _)⟩) fun k r5 h6 c7 hj8 => ?_
 obtain ⟨hk, hin, hihj8_0, hihj8_1, hihj8_2⟩ := hj8
 try dsimp only at hk
 try dsimp only at hin
 try dsimp only at hihj8_0
 try dsimp only at hihj8_1
 try dsimp only at hihj8_2
 show pwp _ _ (loopQ _ _ _) ⟨sets (mix _ _ _) [(9, .int k)], _, _⟩
 refine pwp_seq_seq (pwp_seq_plain rfl fun K9 hK9 => p_mS rfl (p_e rfl (e_faQ pl2 rfl) (p_e rfl (e_lH (v := .lit _ _ _) rfl hihj8_0 rfl) (p_e rfl (e_len rfl (by kernel_rfl)) (p_e rfl (e_lt rfl rfl) (p_end (hK9 _ ?_))))))); clear hK9 K9
 refine pwp_seq_cond rfl fun K10 hK10 => ⟨fun hb11 => ?_, fun hb11 => ?_⟩
 ·have hb11R := hb11; try simp only [zz] at hb11
  obtain ⟨x, hx, hd, ht⟩ := get_lt (xs := s.members) (i := k) (by omega)
  obtain ⟨hxa, hxb⟩ := scf_rng hsc hx
  obtain ⟨n, hnx⟩ := node_ex hxa
  have hnb3 := nod_b hsc hnx
  have hzx := zA_at hnx
  have hle := ln_eq (m := m) hna hnx
  refine pwp_skip (seq_norm (hK10 _ ?_)); clear hK10 K10
  refine pwp_seq_block fun K12 hK12 => pwp_seq_plain rfl fun K13 hK13 => p_e rfl (e_faQ pl2 rfl) (p_e rfl (e_lH (v := .lit _ _ _) rfl hihj8_0 rfl) (p_mS rfl (p_e rfl (e_ixL rfl rfl) (p_e rfl (e_loadA (n := 3) rfl (by kernel_rfl) (by kernel_rfl) (by kernel_rfl) (by first | omega | (simp only [List.length_map]; omega)) (by decide) (by first | exact agg_map hx rfl)) (p_new rfl (e_alloc (cs := [.int 0, .int 0, .int 0]) (n := 3) (by kernel_rfl) rfl (by decide)) (ob_alloc (by decide)) ?_)))))
  refine p_store rfl (e_storeA rfl (hset_self _ _ _) rfl rfl rfl (by kernel_rfl) rfl (by kernel_rfl)) trivial (p_end (hK13 _ ?_)); clear hK13 K13
  refine pwp_seq_plain rfl fun K14 hK14 => p_e rfl (e_loadHA (cs := Scaffold.enc (s)) (n := 2) rfl ((hset_ne (key_ne rfl)).trans ((hset_ne (key_ne rfl)).trans hihj8_0)) (by kernel_rfl) (by kernel_rfl) (by kernel_rfl) (by exact Nat.zero_lt_one) (by decide) rfl) (p_e rfl (e_loadHA (cs := Member.enc (x)) (n := 3) rfl (hset_self _ _ _) (by kernel_rfl) (by kernel_rfl) (by kernel_rfl) (by exact Nat.zero_lt_one) (by decide) rfl) (p_call rfl (.cons (inn_agg (Scaffold.pure _)) (.cons (inn_agg (Member.pure _)) .nil)) (lowC s x n hxa hnx) (p_new rfl (e_alloc (cs := [.int 0, .int 0, .int 0]) (n := 3) (by kernel_rfl) rfl (by decide)) (ob_alloc (by decide)) (p_store rfl (e_storeA rfl (hset_self _ _ _) rfl rfl rfl (by kernel_rfl) rfl (by kernel_rfl)) trivial (p_end (hK14 _ ?_)))))); clear hK14 K14
  refine pwp_seq_gops rfl fun K15 hK15 => g_begin (g_e rfl (e_faQ pl3 rfl) (g_e rfl (e_lH (v := .sc _) rfl ((hset_ne (key_ne rfl)).trans ((hset_ne (key_ne rfl)).trans (hset_self _ _ _))) rfl) (g_e rfl (e_eq rfl rfl) (g_mS rfl rfl ?_))))
  refine g_cases (fun hb16 => ?_) (fun hb16 => ?_)
  ·have hb16R := hb16; try simp only [zz] at hb16
   iterate 3 refine g_skip rfl rfl rfl ?_
   refine g_pT rfl rfl rfl (g_mS rfl rfl (g_e rfl (e_loadHA (cs := Node.enc (a)) (n := 3) rfl ((hset_ne (key_ne rfl)).trans ((hset_ne (key_ne rfl)).trans ((hset_ne (key_ne rfl)).trans ((hset_ne (key_ne rfl)).trans hihj8_1)))) (by kernel_rfl) (by kernel_rfl) (by kernel_rfl) (by exact Nat.zero_lt_one) (by decide) rfl) (g_e rfl (e_loadHA (cs := Node.enc (n)) (n := 3) rfl (hset_self _ _ _) (by kernel_rfl) (by kernel_rfl) (by kernel_rfl) (by exact Nat.zero_lt_one) (by decide) rfl) (g_call rfl rfl rfl rfl (.cons (inn_agg (Node.pure _)) (.cons (inn_agg (Node.pure _)) .nil)) (inLineC a n) (g_pT rfl rfl rfl (g_mS rfl rfl ?_))))))
   refine g_cases (fun hb17 => ?_) (fun hb17 => ?_)
   ·have hb17R := hb17; try simp only [zz] at hb17
    refine g_e rfl (e_faQ pl3 rfl) (g_e rfl (e_lH (v := .sc _) rfl (hset_self _ _ _) rfl) (g_e rfl (e_faQ pl3 rfl) (g_e rfl (e_lH (v := .sc _) rfl ((hset_ne (key_ne rfl)).trans ((hset_ne (key_ne rfl)).trans ((hset_ne (key_ne rfl)).trans ((hset_ne (key_ne rfl)).trans hihj8_1)))) rfl) (g_e rfl (e_le rfl rfl) (g_pT rfl rfl rfl (g_mS rfl rfl ?_))))))
    refine g_cases (fun hb18 => ?_) (fun hb18 => ?_)
    ·have hb18R := hb18; try simp only [zz] at hb18
     refine g_e rfl (e_faQ pl3 rfl) (g_e rfl (e_lH (v := .sc _) rfl ((hset_ne (key_ne rfl)).trans ((hset_ne (key_ne rfl)).trans ((hset_ne (key_ne rfl)).trans ((hset_ne (key_ne rfl)).trans hihj8_2)))) rfl) (g_e rfl (e_faQ pl3 rfl) (g_e rfl (e_lH (v := .sc _) rfl (hset_self _ _ _) rfl) (g_e rfl (e_sub rfl rfl (by first | omega | (simp only [List.length_map] at *; omega))) (g_mS rfl rfl (g_e rfl (e_le rfl rfl) (g_pT rfl rfl rfl ?_)))))))
     refine g_end (ds := [37, 38, 39, 42, 43, 44, 47, 48, 49, 50, 51, 54, 55, 56, 57, 58, 59, 60]) rfl rfl (hK15 _ ?_); clear hK15 K15
     refine pwp_cond rfl (fun hb19 => ?_) (fun hb19 => ?_)
     ·have hb19R := hb19; try simp only [zz] at hb19
      refine pwp_seq_plain rfl fun K20 hK20 => p_aS rfl (p_end (hK20 _ ?_)); clear hK20 K20
      refine pwp_ret (ret_block (ret_seq (ret_loop (ret_block (ret_seq (end1 (v := .sc _) rfl ?_))))))
      first
        | exact out_b (lo_f hx (hr_t (by omega) (of_decide_eq_true (hle.symm.trans (by first | assumption | (exact decide_eq_true (by assumption))))) (by omega) (by omega)))
        | exact out_b (lo_t hin (by simp only [List.length_map] at *; omega))
     ·have hb19R := hb19; try simp only [zz] at hb19
      refine pwp_skip (block_norm (seq_norm (hK12 _ ?_))); clear hK12 K12
      refine pwp_plain rfl fun K21 hK21 => p_mS rfl (p_e rfl (e_adL rfl rfl) (p_aS rfl (p_end (hK21 _ ?_)))); clear hK21 K21
      exact loop_again (k + 1) (by show _ < _; omega) ⟨rfl, rfl, rfl, rfl, trivial⟩ ⟨rfl, trivial⟩ (by exact ⟨by show _ + 1 ≤ _; simp only [List.length_map] at *; omega, by first | exact nx_step (K := hrB s w m) hin hx (hr_1 (by omega)) | exact nx_step (K := hrB s w m) hin hx (hr_2 (of_decide_eq_false (hle.symm.trans (by first | assumption | (exact decide_eq_false (by assumption)))))) | exact nx_step (K := hrB s w m) hin hx (hr_3 (by omega)) | exact nx_step (K := hrB s w m) hin hx (hr_4 (by omega)), ((hset_ne (key_ne rfl)).trans ((hset_ne (key_ne rfl)).trans ((hset_ne (key_ne rfl)).trans ((hset_ne (key_ne rfl)).trans hihj8_0)))), ((hset_ne (key_ne rfl)).trans ((hset_ne (key_ne rfl)).trans ((hset_ne (key_ne rfl)).trans ((hset_ne (key_ne rfl)).trans hihj8_1)))), ((hset_ne (key_ne rfl)).trans ((hset_ne (key_ne rfl)).trans ((hset_ne (key_ne rfl)).trans ((hset_ne (key_ne rfl)).trans hihj8_2))))⟩)
    ·have hb18R := hb18; try simp only [zz] at hb18
     iterate 7 refine g_skip rfl rfl rfl ?_
     refine g_pF rfl rfl rfl (g_end (ds := [37, 38, 39, 42, 43, 44, 47, 48, 49, 50, 51, 54, 55, 56, 57, 58, 59, 60]) rfl rfl (hK15 _ ?_)); clear hK15 K15
     refine pwp_cond (t := false) rfl nofun (fun _ => ?_)
     refine pwp_skip (block_norm (seq_norm (hK12 _ ?_))); clear hK12 K12
     refine pwp_plain rfl fun K22 hK22 => p_mS rfl (p_e rfl (e_adL rfl rfl) (p_aS rfl (p_end (hK22 _ ?_)))); clear hK22 K22
     exact loop_again (k + 1) (by show _ < _; omega) ⟨rfl, rfl, rfl, rfl, trivial⟩ ⟨rfl, trivial⟩ (by exact ⟨by show _ + 1 ≤ _; simp only [List.length_map] at *; omega, by first | exact nx_step (K := hrB s w m) hin hx (hr_1 (by omega)) | exact nx_step (K := hrB s w m) hin hx (hr_2 (of_decide_eq_false (hle.symm.trans (by first | assumption | (exact decide_eq_false (by assumption)))))) | exact nx_step (K := hrB s w m) hin hx (hr_3 (by omega)) | exact nx_step (K := hrB s w m) hin hx (hr_4 (by omega)), ((hset_ne (key_ne rfl)).trans ((hset_ne (key_ne rfl)).trans ((hset_ne (key_ne rfl)).trans ((hset_ne (key_ne rfl)).trans hihj8_0)))), ((hset_ne (key_ne rfl)).trans ((hset_ne (key_ne rfl)).trans ((hset_ne (key_ne rfl)).trans ((hset_ne (key_ne rfl)).trans hihj8_1)))), ((hset_ne (key_ne rfl)).trans ((hset_ne (key_ne rfl)).trans ((hset_ne (key_ne rfl)).trans ((hset_ne (key_ne rfl)).trans hihj8_2))))⟩)
   ·have hb17R := hb17; try simp only [zz] at hb17
    iterate 5 refine g_skip rfl rfl rfl ?_
    refine g_pF rfl rfl rfl (g_mS rfl rfl ?_)
    iterate 7 refine g_skip rfl rfl rfl ?_
    refine g_pF rfl rfl rfl (g_end (ds := [37, 38, 39, 42, 43, 44, 47, 48, 49, 50, 51, 54, 55, 56, 57, 58, 59, 60]) rfl rfl (hK15 _ ?_)); clear hK15 K15
    refine pwp_cond (t := false) rfl nofun (fun _ => ?_)
    refine pwp_skip (block_norm (seq_norm (hK12 _ ?_))); clear hK12 K12
    refine pwp_plain rfl fun K23 hK23 => p_mS rfl (p_e rfl (e_adL rfl rfl) (p_aS rfl (p_end (hK23 _ ?_)))); clear hK23 K23
    exact loop_again (k + 1) (by show _ < _; omega) ⟨rfl, rfl, rfl, rfl, trivial⟩ ⟨rfl, trivial⟩ (by exact ⟨by show _ + 1 ≤ _; simp only [List.length_map] at *; omega, by first | exact nx_step (K := hrB s w m) hin hx (hr_1 (by omega)) | exact nx_step (K := hrB s w m) hin hx (hr_2 (of_decide_eq_false (hle.symm.trans (by first | assumption | (exact decide_eq_false (by assumption)))))) | exact nx_step (K := hrB s w m) hin hx (hr_3 (by omega)) | exact nx_step (K := hrB s w m) hin hx (hr_4 (by omega)), ((hset_ne (key_ne rfl)).trans ((hset_ne (key_ne rfl)).trans ((hset_ne (key_ne rfl)).trans ((hset_ne (key_ne rfl)).trans hihj8_0)))), ((hset_ne (key_ne rfl)).trans ((hset_ne (key_ne rfl)).trans ((hset_ne (key_ne rfl)).trans ((hset_ne (key_ne rfl)).trans hihj8_1)))), ((hset_ne (key_ne rfl)).trans ((hset_ne (key_ne rfl)).trans ((hset_ne (key_ne rfl)).trans ((hset_ne (key_ne rfl)).trans hihj8_2))))⟩)
  ·have hb16R := hb16; try simp only [zz] at hb16
   refine g_e rfl (e_faQ pl3 rfl) (g_e rfl (e_lH (v := .sc _) rfl ((hset_ne (key_ne rfl)).trans ((hset_ne (key_ne rfl)).trans (hset_self _ _ _))) rfl) (g_e rfl (e_eq rfl rfl) (g_pF rfl rfl rfl (g_mS rfl rfl ?_))))
   refine g_cases (fun hb24 => ?_) (fun hb24 => ?_)
   ·have hb24R := hb24; try simp only [zz] at hb24
    refine g_e rfl (e_loadHA (cs := Node.enc (a)) (n := 3) rfl ((hset_ne (key_ne rfl)).trans ((hset_ne (key_ne rfl)).trans ((hset_ne (key_ne rfl)).trans ((hset_ne (key_ne rfl)).trans hihj8_1)))) (by kernel_rfl) (by kernel_rfl) (by kernel_rfl) (by exact Nat.zero_lt_one) (by decide) rfl) (g_e rfl (e_loadHA (cs := Node.enc (n)) (n := 3) rfl (hset_self _ _ _) (by kernel_rfl) (by kernel_rfl) (by kernel_rfl) (by exact Nat.zero_lt_one) (by decide) rfl) (g_call rfl rfl rfl rfl (.cons (inn_agg (Node.pure _)) (.cons (inn_agg (Node.pure _)) .nil)) (inLineC a n) (g_pT rfl rfl rfl (g_mS rfl rfl ?_))))
    refine g_cases (fun hb25 => ?_) (fun hb25 => ?_)
    ·have hb25R := hb25; try simp only [zz] at hb25
     refine g_e rfl (e_faQ pl3 rfl) (g_e rfl (e_lH (v := .sc _) rfl (hset_self _ _ _) rfl) (g_e rfl (e_faQ pl3 rfl) (g_e rfl (e_lH (v := .sc _) rfl ((hset_ne (key_ne rfl)).trans ((hset_ne (key_ne rfl)).trans ((hset_ne (key_ne rfl)).trans ((hset_ne (key_ne rfl)).trans hihj8_1)))) rfl) (g_e rfl (e_le rfl rfl) (g_pT rfl rfl rfl (g_mS rfl rfl ?_))))))
     refine g_cases (fun hb26 => ?_) (fun hb26 => ?_)
     ·have hb26R := hb26; try simp only [zz] at hb26
      refine g_e rfl (e_faQ pl3 rfl) (g_e rfl (e_lH (v := .sc _) rfl ((hset_ne (key_ne rfl)).trans ((hset_ne (key_ne rfl)).trans ((hset_ne (key_ne rfl)).trans ((hset_ne (key_ne rfl)).trans hihj8_2)))) rfl) (g_e rfl (e_faQ pl3 rfl) (g_e rfl (e_lH (v := .sc _) rfl (hset_self _ _ _) rfl) (g_e rfl (e_sub rfl rfl (by first | omega | (simp only [List.length_map] at *; omega))) (g_mS rfl rfl (g_e rfl (e_le rfl rfl) (g_pT rfl rfl rfl ?_)))))))
      refine g_end (ds := [37, 38, 39, 42, 43, 44, 47, 48, 49, 50, 51, 54, 55, 56, 57, 58, 59, 60]) rfl rfl (hK15 _ ?_); clear hK15 K15
      refine pwp_cond rfl (fun hb27 => ?_) (fun hb27 => ?_)
      ·have hb27R := hb27; try simp only [zz] at hb27
       refine pwp_seq_plain rfl fun K28 hK28 => p_aS rfl (p_end (hK28 _ ?_)); clear hK28 K28
       refine pwp_ret (ret_block (ret_seq (ret_loop (ret_block (ret_seq (end1 (v := .sc _) rfl ?_))))))
       first
         | exact out_b (lo_f hx (hr_t (by omega) (of_decide_eq_true (hle.symm.trans (by first | assumption | (exact decide_eq_true (by assumption))))) (by omega) (by omega)))
         | exact out_b (lo_t hin (by simp only [List.length_map] at *; omega))
      ·have hb27R := hb27; try simp only [zz] at hb27
       refine pwp_skip (block_norm (seq_norm (hK12 _ ?_))); clear hK12 K12
       refine pwp_plain rfl fun K29 hK29 => p_mS rfl (p_e rfl (e_adL rfl rfl) (p_aS rfl (p_end (hK29 _ ?_)))); clear hK29 K29
       exact loop_again (k + 1) (by show _ < _; omega) ⟨rfl, rfl, rfl, rfl, trivial⟩ ⟨rfl, trivial⟩ (by exact ⟨by show _ + 1 ≤ _; simp only [List.length_map] at *; omega, by first | exact nx_step (K := hrB s w m) hin hx (hr_1 (by omega)) | exact nx_step (K := hrB s w m) hin hx (hr_2 (of_decide_eq_false (hle.symm.trans (by first | assumption | (exact decide_eq_false (by assumption)))))) | exact nx_step (K := hrB s w m) hin hx (hr_3 (by omega)) | exact nx_step (K := hrB s w m) hin hx (hr_4 (by omega)), ((hset_ne (key_ne rfl)).trans ((hset_ne (key_ne rfl)).trans ((hset_ne (key_ne rfl)).trans ((hset_ne (key_ne rfl)).trans hihj8_0)))), ((hset_ne (key_ne rfl)).trans ((hset_ne (key_ne rfl)).trans ((hset_ne (key_ne rfl)).trans ((hset_ne (key_ne rfl)).trans hihj8_1)))), ((hset_ne (key_ne rfl)).trans ((hset_ne (key_ne rfl)).trans ((hset_ne (key_ne rfl)).trans ((hset_ne (key_ne rfl)).trans hihj8_2))))⟩)
     ·have hb26R := hb26; try simp only [zz] at hb26
      iterate 7 refine g_skip rfl rfl rfl ?_
      refine g_pF rfl rfl rfl (g_end (ds := [37, 38, 39, 42, 43, 44, 47, 48, 49, 50, 51, 54, 55, 56, 57, 58, 59, 60]) rfl rfl (hK15 _ ?_)); clear hK15 K15
      refine pwp_cond (t := false) rfl nofun (fun _ => ?_)
      refine pwp_skip (block_norm (seq_norm (hK12 _ ?_))); clear hK12 K12
      refine pwp_plain rfl fun K30 hK30 => p_mS rfl (p_e rfl (e_adL rfl rfl) (p_aS rfl (p_end (hK30 _ ?_)))); clear hK30 K30
      exact loop_again (k + 1) (by show _ < _; omega) ⟨rfl, rfl, rfl, rfl, trivial⟩ ⟨rfl, trivial⟩ (by exact ⟨by show _ + 1 ≤ _; simp only [List.length_map] at *; omega, by first | exact nx_step (K := hrB s w m) hin hx (hr_1 (by omega)) | exact nx_step (K := hrB s w m) hin hx (hr_2 (of_decide_eq_false (hle.symm.trans (by first | assumption | (exact decide_eq_false (by assumption)))))) | exact nx_step (K := hrB s w m) hin hx (hr_3 (by omega)) | exact nx_step (K := hrB s w m) hin hx (hr_4 (by omega)), ((hset_ne (key_ne rfl)).trans ((hset_ne (key_ne rfl)).trans ((hset_ne (key_ne rfl)).trans ((hset_ne (key_ne rfl)).trans hihj8_0)))), ((hset_ne (key_ne rfl)).trans ((hset_ne (key_ne rfl)).trans ((hset_ne (key_ne rfl)).trans ((hset_ne (key_ne rfl)).trans hihj8_1)))), ((hset_ne (key_ne rfl)).trans ((hset_ne (key_ne rfl)).trans ((hset_ne (key_ne rfl)).trans ((hset_ne (key_ne rfl)).trans hihj8_2))))⟩)
    ·have hb25R := hb25; try simp only [zz] at hb25
     iterate 5 refine g_skip rfl rfl rfl ?_
     refine g_pF rfl rfl rfl (g_mS rfl rfl ?_)
     iterate 7 refine g_skip rfl rfl rfl ?_
     refine g_pF rfl rfl rfl (g_end (ds := [37, 38, 39, 42, 43, 44, 47, 48, 49, 50, 51, 54, 55, 56, 57, 58, 59, 60]) rfl rfl (hK15 _ ?_)); clear hK15 K15
     refine pwp_cond (t := false) rfl nofun (fun _ => ?_)
     refine pwp_skip (block_norm (seq_norm (hK12 _ ?_))); clear hK12 K12
     refine pwp_plain rfl fun K31 hK31 => p_mS rfl (p_e rfl (e_adL rfl rfl) (p_aS rfl (p_end (hK31 _ ?_)))); clear hK31 K31
     exact loop_again (k + 1) (by show _ < _; omega) ⟨rfl, rfl, rfl, rfl, trivial⟩ ⟨rfl, trivial⟩ (by exact ⟨by show _ + 1 ≤ _; simp only [List.length_map] at *; omega, by first | exact nx_step (K := hrB s w m) hin hx (hr_1 (by omega)) | exact nx_step (K := hrB s w m) hin hx (hr_2 (of_decide_eq_false (hle.symm.trans (by first | assumption | (exact decide_eq_false (by assumption)))))) | exact nx_step (K := hrB s w m) hin hx (hr_3 (by omega)) | exact nx_step (K := hrB s w m) hin hx (hr_4 (by omega)), ((hset_ne (key_ne rfl)).trans ((hset_ne (key_ne rfl)).trans ((hset_ne (key_ne rfl)).trans ((hset_ne (key_ne rfl)).trans hihj8_0)))), ((hset_ne (key_ne rfl)).trans ((hset_ne (key_ne rfl)).trans ((hset_ne (key_ne rfl)).trans ((hset_ne (key_ne rfl)).trans hihj8_1)))), ((hset_ne (key_ne rfl)).trans ((hset_ne (key_ne rfl)).trans ((hset_ne (key_ne rfl)).trans ((hset_ne (key_ne rfl)).trans hihj8_2))))⟩)
   ·have hb24R := hb24; try simp only [zz] at hb24
    iterate 2 refine g_skip rfl rfl rfl ?_
    refine g_nocall rfl rfl rfl (g_pF rfl rfl rfl (g_mS rfl rfl ?_))
    iterate 5 refine g_skip rfl rfl rfl ?_
    refine g_pF rfl rfl rfl (g_mS rfl rfl ?_)
    iterate 7 refine g_skip rfl rfl rfl ?_
    refine g_pF rfl rfl rfl (g_end (ds := [37, 38, 39, 42, 43, 44, 47, 48, 49, 50, 51, 54, 55, 56, 57, 58, 59, 60]) rfl rfl (hK15 _ ?_)); clear hK15 K15
    refine pwp_cond (t := false) rfl nofun (fun _ => ?_)
    refine pwp_skip (block_norm (seq_norm (hK12 _ ?_))); clear hK12 K12
    refine pwp_plain rfl fun K32 hK32 => p_mS rfl (p_e rfl (e_adL rfl rfl) (p_aS rfl (p_end (hK32 _ ?_)))); clear hK32 K32
    exact loop_again (k + 1) (by show _ < _; omega) ⟨rfl, rfl, rfl, rfl, trivial⟩ ⟨rfl, trivial⟩ (by exact ⟨by show _ + 1 ≤ _; simp only [List.length_map] at *; omega, by first | exact nx_step (K := hrB s w m) hin hx (hr_1 (by omega)) | exact nx_step (K := hrB s w m) hin hx (hr_2 (of_decide_eq_false (hle.symm.trans (by first | assumption | (exact decide_eq_false (by assumption)))))) | exact nx_step (K := hrB s w m) hin hx (hr_3 (by omega)) | exact nx_step (K := hrB s w m) hin hx (hr_4 (by omega)), ((hset_ne (key_ne rfl)).trans ((hset_ne (key_ne rfl)).trans ((hset_ne (key_ne rfl)).trans ((hset_ne (key_ne rfl)).trans hihj8_0)))), ((hset_ne (key_ne rfl)).trans ((hset_ne (key_ne rfl)).trans ((hset_ne (key_ne rfl)).trans ((hset_ne (key_ne rfl)).trans hihj8_1)))), ((hset_ne (key_ne rfl)).trans ((hset_ne (key_ne rfl)).trans ((hset_ne (key_ne rfl)).trans ((hset_ne (key_ne rfl)).trans hihj8_2))))⟩)
 ·have hb11R := hb11; try simp only [zz] at hb11
  refine pwp_exit (exit_seq ?_)
  clear hK10 K10
  refine exit_loop (exit_here (seq_norm (hK4 _ ?_))); clear hK4 K4
  refine pwp_seq_plain rfl fun K33 hK33 => p_aS rfl (p_end (hK33 _ ?_)); clear hK33 K33
  refine pwp_ret (end1 (v := .sc _) rfl ?_)
  first
    | exact out_b (lo_f hx (hr_t (by omega) (of_decide_eq_true (hle.symm.trans (by first | assumption | (exact decide_eq_true (by assumption))))) (by omega) (by omega)))
    | exact out_b (lo_t hin (by simp only [List.length_map] at *; omega))

theorem fr58 : (inFrame Try.f58.ntmps (Try.f58.body.getD .skip) && Try.f58.results.toList.all (resScope Try.f58.ntmps)) = true := by kernel_rfl
theorem refStableC (s : Scaffold) (w : Int) (hs1 : s.nodes.length ≤ 30) (hs2 : s.members.length ≤ 40) (hsc : scfE s = 0) : PCalls Try.prog 58 [.agg s.enc, .int w] (.int (ixA (lsB s w) s.members)) := by
 refine PCalls.of_code Try.func58 rfl rfl (by kernel_rfl) mixed fr58 (by show _ ≤ 31; simp) (.sc _) (pwp_seq_plain rfl fun K1 hK1 => p_new rfl (e_box (n := 2) rfl rfl) ⟨rfl, by decide⟩ (p_aS rfl (p_end (hK1 _ ?_)))); clear hK1 K1
 refine pwp_seq_seq (pwp_seq_plain rfl fun K2 hK2 => p_aS rfl (p_end (hK2 _ ?_))); clear hK2 K2
 refine pwp_seq_block fun K3 hK3 => pwp_loopR (α := Nat) [1, 2] (fun (k : Nat) => [(5, .int (k))]) (fun (k : Nat) (h : Heap) (_ : Nat → Nat) => ((k) ≤ s.members.length) ∧ (∀ i, i < (k) → ∀ y, s.members[i]? = some y → lsB s w y = false) ∧ (h (2, 0) = some (.rows 2 [Scaffold.enc s]))) (fun (k : Nat) => s.members.length - (k)) (0) (by exact ⟨rfl, trivial⟩) (by exact ⟨by exact Nat.zero_le _, by exact nx_0, (hset_self _ _ _)⟩) fun k r4 h5 c6 hj7 => ?_
 obtain ⟨hk, hin, hihj7_0⟩ := hj7
 try dsimp only at hk
 try dsimp only at hin
 try dsimp only at hihj7_0
 show pwp _ _ (loopQ _ _ _) ⟨sets (mix _ _ _) [(5, .int k)], _, _⟩
 refine pwp_seq_seq (pwp_seq_plain rfl fun K8 hK8 => p_mS rfl (p_e rfl (e_faQ pl2 rfl) (p_e rfl (e_lH (v := .lit _ _ _) rfl hihj7_0 rfl) (p_e rfl (e_len rfl (by kernel_rfl)) (p_e rfl (e_lt rfl rfl) (p_end (hK8 _ ?_))))))); clear hK8 K8
 refine pwp_seq_cond rfl fun K9 hK9 => ⟨fun hb10 => ?_, fun hb10 => ?_⟩
 ·have hb10R := hb10; try simp only [zz] at hb10
  obtain ⟨m, hm, hd, ht⟩ := get_lt (xs := s.members) (i := k) (by omega)
  obtain ⟨hma, hmb⟩ := scf_rng hsc hm
  refine pwp_skip (seq_norm (hK9 _ ?_)); clear hK9 K9
  refine pwp_seq_block fun K11 hK11 => pwp_seq_gops rfl fun K12 hK12 => g_begin (g_e rfl (e_faQ pl2 rfl) (g_e rfl (e_lH (v := .lit _ _ _) rfl hihj7_0 rfl) (g_mS rfl rfl (g_e rfl (e_ixL rfl rfl) (g_e rfl (e_fb pl3 rfl) ?_)))))
  refine g_e rfl (e_load (v := .sc _) rfl (by kernel_rfl) (by kernel_rfl) (by kernel_rfl) (by first | omega | (simp only [List.length_map]; omega)) (by decide) ((cell_map hm _).trans rfl)) (g_e rfl (e_eq rfl rfl) (g_mS rfl rfl ?_))
  refine g_cases (fun hb13 => ?_) (fun hb13 => ?_)
  ·have hb13R := hb13; try simp only [zz] at hb13
   refine g_e rfl (e_loadHA (cs := Scaffold.enc (s)) (n := 2) rfl hihj7_0 (by kernel_rfl) (by kernel_rfl) (by kernel_rfl) (by exact Nat.zero_lt_one) (by decide) rfl) (g_e rfl (e_faQ pl2 rfl) (g_e rfl (e_lH (v := .lit _ _ _) rfl hihj7_0 rfl) (g_mS rfl rfl (g_e rfl (e_ixL rfl rfl) (g_e rfl (e_loadA (n := 3) rfl (by kernel_rfl) (by kernel_rfl) (by kernel_rfl) (by first | omega | (simp only [List.length_map]; omega)) (by decide) (by first | exact agg_map hm rfl)) (g_mS rfl rfl (g_call rfl rfl rfl rfl (.cons (inn_agg (Scaffold.pure _)) (.cons (inn_agg (Member.pure _)) (.cons inn_sc .nil))) (looseC s m w hs1 hs2 hsc hma hmb) ?_)))))))
   refine g_pT rfl rfl rfl (g_end (ds := [21, 22, 23, 24, 25, 26, 27, 28]) (by kernel_rfl) rfl (hK12 _ ?_)); clear hK12 K12
   refine pwp_cond rfl (fun hb14 => ?_) (fun hb14 => ?_)
   ·have hb14R := hb14; try simp only [zz] at hb14
    refine pwp_seq_plain rfl fun K15 hK15 => p_mS rfl (p_aS rfl (p_end (hK15 _ ?_))); clear hK15 K15
    refine pwp_ret (ret_block (ret_seq (ret_loop (ret_block (ret_seq (end1 (v := .sc _) rfl ?_))))))
    first
      | exact out_i (ixA_hit (K := lsB s w) hm hin (ls_r (by assumption) (by assumption)))
      | exact out_i (ixA_hit (K := lsB s w) hm hin (ls_r (by assumption) (by simp_all)))
      | exact out_i (ixA_no (K := lsB s w) hin (by simp only [List.length_map] at *; omega))
   ·have hb14R := hb14; try simp only [zz] at hb14
    refine pwp_skip (block_norm (seq_norm (hK11 _ ?_))); clear hK11 K11
    refine pwp_plain rfl fun K16 hK16 => p_mS rfl (p_e rfl (e_adL rfl rfl) (p_aS rfl (p_end (hK16 _ ?_)))); clear hK16 K16
    exact loop_again (k + 1) (by show _ < _; omega) ⟨rfl, rfl, trivial⟩ ⟨rfl, trivial⟩ (by exact ⟨by show _ + 1 ≤ _; simp only [List.length_map] at *; omega, by first | exact nx_step (K := lsB s w) hin hm (ls_k (by omega)) | exact nx_step (K := lsB s w) hin hm (ls_n (by assumption)) | exact nx_step (K := lsB s w) hin hm (ls_n (by simp_all)), hihj7_0⟩)
  ·have hb13R := hb13; try simp only [zz] at hb13
   iterate 7 refine g_skip rfl rfl rfl ?_
   refine g_nocall rfl rfl rfl (g_pF rfl rfl rfl (g_end (ds := [21, 22, 23, 24, 25, 26, 27, 28]) (by kernel_rfl) rfl (hK12 _ ?_))); clear hK12 K12
   refine pwp_cond (t := false) rfl nofun (fun _ => ?_)
   refine pwp_skip (block_norm (seq_norm (hK11 _ ?_))); clear hK11 K11
   refine pwp_plain rfl fun K17 hK17 => p_mS rfl (p_e rfl (e_adL rfl rfl) (p_aS rfl (p_end (hK17 _ ?_)))); clear hK17 K17
   exact loop_again (k + 1) (by show _ < _; omega) ⟨rfl, rfl, trivial⟩ ⟨rfl, trivial⟩ (by exact ⟨by show _ + 1 ≤ _; simp only [List.length_map] at *; omega, by first | exact nx_step (K := lsB s w) hin hm (ls_k (by omega)) | exact nx_step (K := lsB s w) hin hm (ls_n (by assumption)) | exact nx_step (K := lsB s w) hin hm (ls_n (by simp_all)), hihj7_0⟩)
 ·have hb10R := hb10; try simp only [zz] at hb10
  refine pwp_exit (exit_seq ?_)
  clear hK9 K9
  refine exit_loop (exit_here (seq_norm (hK3 _ ?_))); clear hK3 K3
  refine pwp_seq_plain rfl fun K18 hK18 => p_aS rfl (p_end (hK18 _ ?_)); clear hK18 K18
  refine pwp_ret (end1 (v := .sc _) rfl ?_)
  first
    | exact out_i (ixA_hit (K := lsB s w) hm hin (ls_r (by assumption) (by assumption)))
    | exact out_i (ixA_hit (K := lsB s w) hm hin (ls_r (by assumption) (by simp_all)))
    | exact out_i (ixA_no (K := lsB s w) hin (by simp only [List.length_map] at *; omega))

end Go.Proofs.Ytjmjiegplnfiiaa

/- ErectionStable at P level. No conditions. -/
set_option linter.unusedSimpArgs false
set_option linter.unusedVariables false
set_option maxRecDepth 100000
namespace Go.Proofs.Ytjmjiegplnfiiaa
open Go Go.Pv
section
variable {P : Program} {ρ : Operand → PV} {h : Heap} {key : Key} {x y : Operand} {t t' : TypeId} {a b : Int}
theorem e_neT (hx : ρ x = .int a) (hy : ρ y = .int b) (hn : a ≠ b) : eff P ρ h key (.binOp .neq t x y t') = ⟨True, .bool true, [], [], false⟩ :=
 (e_ne hx hy).trans (by rw [decide_eq_true hn])
theorem e_neF (hx : ρ x = .int a) (hy : ρ y = .int b) (hn : a = b) : eff P ρ h key (.binOp .neq t x y t') = ⟨True, .bool false, [], [], false⟩ := by
 rw [e_ne hx hy, decide_eq_false (p := a ≠ b) (fun q => q hn)]
end
theorem Fr.known {s' : PS} {s : Scaffold} {q ge gb gm gr gh gl b kh : Nat} {ve vb vm vr : List PV} {lh lr : List ((Int × Int) × PV)} (hk : Known s') (h : Fr s'.h s q ge gb gm gr gh gl ve vb vm vr lh lr b kh) : Fr s'.h s q ge gb gm gr gh gl ve vb vm vr lh lr b kh := h
section
variable {s : Scaffold} {w : Int} {h : Heap}
theorem stb_c (s : Scaffold) (w : Int) : (scfE s ≠ 0 ∧ (stbX s w).1 = 0 ∧ (stbX s w).2 = scfE s) ∨ (scfE s = 0 ∧ ¬ (0 ≤ w ∧ w ≤ 1000000) ∧ (stbX s w).1 = 0 ∧ (stbX s w).2 = 2) ∨ (scfE s = 0 ∧ (0 ≤ w ∧ w ≤ 1000000) ∧ (stbX s w).1 = ixA (lsB s w) s.members ∧ (stbX s w).2 = 0) := by
 by_cases h1 : scfE s = 0
 · by_cases h2 : 0 ≤ w ∧ w ≤ 1000000
   · refine .inr (.inr ⟨h1, h2, ?_⟩)
     rw [stbX, if_neg (fun q => q h1), if_neg (fun q => q h2)]; exact ⟨rfl, rfl⟩
   · refine .inr (.inl ⟨h1, h2, ?_⟩)
     rw [stbX, if_neg (fun q => q h1), if_pos h2]; exact ⟨rfl, rfl⟩
 · refine .inl ⟨h1, ?_⟩
   rw [stbX, if_pos h1]; exact ⟨rfl, rfl⟩
theorem stb_e (h1 : scfE s ≠ 0) : Out h (.tup [.int 0, .int (scfE s)]) (.tup [.int (stbX s w).1, .int (stbX s w).2]) := by
 rw [stbX, if_pos h1]; exact out_2 (out_i rfl) (out_i rfl)
theorem stb_2 (h1 : scfE s = 0) (h2 : ¬ (0 ≤ w ∧ w ≤ 1000000)) : Out h (.tup [.int 0, .int 2]) (.tup [.int (stbX s w).1, .int (stbX s w).2]) := by
 rw [stbX, if_neg (fun q => q h1), if_pos h2]; exact out_2 (out_i rfl) (out_i rfl)
theorem stb_i {i : Int} (h1 : scfE s = 0) (h2 : 0 ≤ w ∧ w ≤ 1000000) (hi : i = ixA (lsB s w) s.members) : Out h (.tup [.int i, .int 0]) (.tup [.int (stbX s w).1, .int (stbX s w).2]) := by
 rw [stbX, if_neg (fun q => q h1), if_neg (fun q => q h2)]; exact out_2 (out_i hi) (out_i rfl)
end

theorem fr55e : (inFrame Try.f55.ntmps (Try.f55.body.getD .skip) && Try.f55.results.toList.all (resScope Try.f55.ntmps)) = true := by kernel_rfl
theorem StableE (s : Scaffold) (w : Int) (hs1 : s.nodes.length ≤ 30) (hs2 : s.members.length ≤ 40) (hsc : scfE s ≠ 0) : PCalls Try.prog 55 [.agg s.enc, .int w] (.tup [.int (stbX s w).1, .int (stbX s w).2]) := by
 refine PCalls.of_code Try.func55 rfl rfl (by kernel_rfl) mixed fr55e (by show _ ≤ 84; simp) (pure_2 (.sc _) (.sc _)) ?_
 refine pwp_seq_plain rfl fun K1 hK1 => ?_
 refine p_new rfl (e_box (n := 2) rfl rfl) ⟨rfl, by decide⟩ ?_
 refine p_aS rfl ?_
 refine p_aS rfl ?_
 refine p_end (hK1 _ ?_); clear hK1 K1
 refine pwp_seq_plain rfl fun K2 hK2 => ?_
 refine p_e rfl (e_loadHA (cs := Scaffold.enc (s)) (n := 2) rfl (hset_self _ _ _) (by kernel_rfl) (by kernel_rfl) (by kernel_rfl) (by exact Nat.zero_lt_one) (by decide) rfl) ?_
 refine p_hcall rfl (readF _ _ s hs1 hs2 (hset_self _ _ _)) fun v h1 c1 hR => ?_
 obtain rfl := frm_e hsc hR
 refine p_e rfl (e_move (v := .tup _) rfl) ?_
 refine p_e rfl (e_ext (v := .sc _) rfl (by simp) rfl) ?_
 refine p_e rfl (e_ext (v := .sc _) rfl (by simp) rfl) ?_
 refine p_aS rfl ?_
 refine p_aS rfl ?_
 refine p_end (hK2 _ ?_); clear hK2 K2
 refine pwp_seq_block fun K3 hK3 => ?_
 refine pwp_seq_plain rfl fun K4 hK4 => ?_
 refine p_mS rfl ?_
 refine p_e rfl (e_neT rfl rfl hsc) ?_
 refine p_aS rfl ?_
 refine p_end (hK4 _ ?_); clear hK4 K4
 refine pwp_cond (t := true) rfl (fun _ => ?_) nofun
 refine pwp_seq_plain rfl fun K5 hK5 => ?_
 refine p_mS rfl ?_
 refine p_aS rfl ?_
 refine p_aS rfl ?_
 refine p_end (hK5 _ ?_); clear hK5 K5
 refine pwp_ret ?_
 refine ret_block ?_
 refine ret_seq ?_
 refine end2 (v := .sc _) (w := .sc _) rfl rfl ?_
 exact stb_e hsc

theorem fr55 : (inFrame Try.f55.ntmps (Try.f55.body.getD .skip) && Try.f55.results.toList.all (resScope Try.f55.ntmps)) = true := by kernel_rfl
theorem Stable0 (s : Scaffold) (w : Int) (hs1 : s.nodes.length ≤ 30) (hs2 : s.members.length ≤ 40) (hsc : scfE s = 0) : PCalls Try.prog 55 [.agg s.enc, .int w] (.tup [.int (stbX s w).1, .int (stbX s w).2]) := by
 refine PCalls.of_code Try.func55 rfl rfl (by kernel_rfl) mixed fr55 (by show _ ≤ 84; simp) (pure_2 (.sc _) (.sc _)) ?_
 refine pwp_seq_plain rfl fun K1 hK1 => ?_
 refine p_new rfl (e_box (n := 2) rfl rfl) ⟨rfl, by decide⟩ ?_
 refine p_aS rfl ?_
 refine p_aS rfl ?_
 refine p_end (hK1 _ ?_); clear hK1 K1
 refine pwp_seq_plain rfl fun K2 hK2 => ?_
 refine p_e rfl (e_loadHA (cs := Scaffold.enc (s)) (n := 2) rfl (hset_self _ _ _) (by kernel_rfl) (by kernel_rfl) (by kernel_rfl) (by exact Nat.zero_lt_one) (by decide) rfl) ?_
 refine p_hcall rfl (readF _ _ s hs1 hs2 (hset_self _ _ _)) fun v h1 c1 hR => ?_
 obtain ⟨q, ge, gb, gm, gr, gh, gl, bb, ve, vb, vm, vr, lh, lr, rfl, hI, hB2⟩ := frm_0 hsc hR
 refine p_e rfl (e_move (v := .tup _) rfl) ?_
 refine p_e rfl (e_ext (v := .ptr _ _ _ _) rfl (by simp) rfl) ?_
 refine p_e rfl (e_ext (v := .sc _) rfl (by simp) rfl) ?_
 refine p_e rfl (e_assign (v := .ptr _ _ _ _) rfl) ?_
 refine p_aS rfl ?_
 refine p_end (hK2 _ ?_); clear hK2 K2
 refine pwp_seq_block fun K3 hK3 => ?_
 refine pwp_seq_plain rfl fun K4 hK4 => ?_
 refine p_mS rfl ?_
 refine p_e rfl (e_neF rfl rfl rfl) ?_
 refine p_aS rfl ?_
 refine p_end (hK4 _ ?_); clear hK4 K4
 refine pwp_cond (t := false) rfl nofun (fun _ => ?_)
 refine pwp_seq_plain rfl fun K5 hK5 => ?_
 refine p_mS rfl ?_
 refine p_call rfl (.cons inn_sc (.cons inn_sc (.cons inn_sc .nil))) (within _ _ _) ?_
 refine p_e rfl (e_not rfl) ?_
 refine p_aS rfl ?_
 refine p_end (hK5 _ ?_); clear hK5 K5
 refine pwp_cond rfl (fun hb6 => ?_) (fun hb6 => ?_)
 ·have hb6R := hb6; try simp only [zz] at hb6
  refine pwp_seq_plain rfl fun K7 hK7 => ?_
  refine p_aS rfl ?_
  refine p_aS rfl ?_
  refine p_end (hK7 _ ?_); clear hK7 K7
  refine pwp_ret ?_
  refine ret_block ?_
  refine ret_seq ?_
  refine end2 (v := .sc _) (w := .sc _) rfl rfl ?_
  first
    | exact stb_2 hsc (by omega)
    | exact stb_i hsc hw (ixA_hit (K := lsB s w) hm hin (fo_t hb0 hjj (by omega) (by assumption)))
    | exact stb_i hsc hw (ixA_no (K := lsB s w) hin (by simp only [List.length_map] at *; omega))
 ·have hb6R := hb6; try simp only [zz] at hb6
  refine pwp_skip ?_
  refine block_norm ?_
  refine seq_norm (hK3 _ ?_); clear hK3 K3
  refine pwp_seq_seq ?_
  have hw : 0 ≤ w ∧ w ≤ 1000000 := by omega
  refine pwp_seq_plain rfl fun K8 hK8 => ?_
  refine p_e rfl (e_faQ pl2 rfl) ?_
  refine p_e rfl (e_lH (v := .lit _ _ _) rfl hB2 rfl) ?_
  refine p_e rfl (e_len rfl (by kernel_rfl)) ?_
  refine p_mS rfl ?_
  refine p_end (hK8 _ ?_); clear hK8 K8
  refine pwp_seq_block fun K9 hK9 => ?_
  refine pwp_loopR (α := Nat) [1, 2, 6, 28, 29] (fun (k : Nat) => [(30, .int (k))]) (fun (k : Nat) (h : Heap) (_ : Nat → Nat) => ((k) ≤ s.members.length) ∧ (∀ i, i < (k) → ∀ y, s.members[i]? = some y → lsB s w y = false) ∧ (Fr h s q ge gb gm gr gh gl ve vb vm vr lh lr bb s.members.length) ∧ (h (2, 0) = some (.rows 2 [Scaffold.enc s]))) (fun (k : Nat) => s.members.length - (k)) (0) (by exact ⟨rfl, trivial⟩) (by exact ⟨by exact Nat.zero_le _, by exact nx_0, by exact hI, hB2⟩) fun k r10 h11 c12 hj13 => ?_
  obtain ⟨hk, hin, hI, hihj13_0⟩ := hj13
  try dsimp only at hk
  try dsimp only at hin
  try dsimp only at hI
  try dsimp only at hihj13_0
  show pwp _ _ (loopQ _ _ _) ⟨sets (mix _ _ _) [(30, .int k)], _, _⟩
  refine pwp_seq_plain rfl fun K14 hK14 => ?_
  refine p_e rfl (e_lt rfl rfl) ?_
  refine p_end (hK14 _ ?_); clear hK14 K14
  refine pwp_seq_cond rfl fun K15 hK15 => ⟨fun hb16 => ?_, fun hb16 => ?_⟩
  ·have hb16R := hb16; try simp only [zz] at hb16
   obtain ⟨m, hm, hd, ht⟩ := get_lt (xs := s.members) (i := k) (by omega)
   obtain ⟨hma, hmb⟩ := scf_rng hsc hm
   refine pwp_skip ?_
   refine seq_norm (hK15 _ ?_); clear hK15 K15
   refine pwp_seq_block fun K17 hK17 => ?_
   refine pwp_seq_plain rfl fun K18 hK18 => ?_
   refine p_mS rfl ?_
   refine p_e rfl (e_ixL rfl rfl) ?_
   refine p_e rfl (e_loadA (n := 3) rfl (by kernel_rfl) (by kernel_rfl) (by kernel_rfl) (by first | omega | (simp only [List.length_map]; omega)) (by decide) (by first | exact agg_map hm rfl)) ?_
   refine p_new rfl (e_alloc (cs := [.int 0, .int 0, .int 0]) (n := 3) (by kernel_rfl) rfl (by decide)) (ob_alloc (by decide)) ?_
   refine p_aS rfl ?_
   refine p_store rfl (e_storeA rfl (hset_self _ _ _) rfl rfl rfl (by kernel_rfl) rfl (by kernel_rfl)) trivial ?_
   refine p_end (hK18 _ ?_); clear hK18 K18
   refine pwp_seq_seq ?_
   refine pwp_seq_plain rfl fun K19 hK19 => ?_
   refine p_e rfl (e_faQ pl3 rfl) ?_
   refine p_e rfl (e_lH (v := .sc _) rfl (hset_self _ _ _) rfl) ?_
   refine p_e rfl (e_ne rfl rfl) ?_
   refine p_end (hK19 _ ?_); clear hK19 K19
   refine pwp_seq_cond rfl fun K20 hK20 => ⟨fun hb21 => ?_, fun hb21 => ?_⟩
   ·have hb21R := hb21; try simp only [zz] at hb21
    refine pwp_exit ?_
    refine exit_seq ?_
    clear hK20 K20
    refine exit_here ?_
    refine seq_norm (hK17 _ ?_); clear hK17 K17
    refine pwp_plain rfl fun K22 hK22 => ?_
    refine p_e rfl (e_adL rfl rfl) ?_
    refine p_mS rfl ?_
    refine p_end (hK22 _ ?_); clear hK22 K22
    exact loop_again (k + 1) (by show _ < _; omega) ⟨rfl, rfl, rfl, rfl, rfl, trivial⟩ ⟨rfl, trivial⟩ (by exact ⟨by show _ + 1 ≤ _; simp only [List.length_map] at *; omega, by first | exact nx_step (K := lsB s w) hin hm (ls_k (by omega)) | exact nx_step (K := lsB s w) hin hm (fo_f hb0 hjj (by assumption)), by exact (Fr.set rfl (Fr.set rfl hI)), ((hset_ne (key_ne rfl)).trans ((hset_ne (key_ne rfl)).trans hihj13_0))⟩)
   ·have hb21R := hb21; try simp only [zz] at hb21
    refine pwp_skip ?_
    refine seq_norm (hK20 _ ?_); clear hK20 K20
    refine pwp_seq_plain rfl fun K23 hK23 => ?_
    refine p_aS rfl ?_
    refine p_end (hK23 _ ?_); clear hK23 K23
    refine pwp_seq_seq ?_
    refine pwp_seq_gopsK rfl fun hkn K24 hK24 => ?_
    have hIc := Fr.known hkn (by exact (Fr.set rfl (Fr.set rfl hI))); dsimp only at hIc
    refine s_begin ?_
    refine s_e rfl (e_move (v := .ptr (31, q) 8 0 0) rfl) ?_
    refine s_e rfl (e_nilc rfl) ?_
    refine s_e rfl (e_faQ plF rfl) ?_
    refine s_step [31] (by simp) rfl rfl rfl rfl (e_lH (v := .map (28, gh)) rfl hIc.F rfl) trivial ?_
    refine s_e rfl (e_move (v := .ptr (31, q) 8 0 0) rfl) ?_
    refine s_e rfl (e_faQ pl3 rfl) ?_
    refine s_step [9] (by simp) rfl rfl rfl rfl (e_lH (v := .sc _) rfl (hset_self _ _ _) rfl) trivial ?_
    refine s_callM [(31, q)] [31] (by simp) rfl rfl rfl rfl (fun h' hh c' => lineM h' c' s q m.a _ ((hh _ (by simp)).trans hIc.F) hma) ?_
    refine s_step [28] (by simp) rfl rfl rfl rfl (e_look (kt := 161) (et := 25) (f := kl) (g := id) (a := (lnA s m.a)) (l := lh) (z := .nil) kl_eq kl_ok rfl rfl hIc.hm (by kernel_rfl) (by kernel_rfl) (by first | rfl | kernel_rfl)) trivial ?_
    refine s_e rfl (SliceAt.len (hIc.hc _) rfl (by kernel_rfl)) ?_
    refine s_e rfl (e_move (v := .sc _) rfl) ?_
    refine s_end (ds := []) (by kernel_rfl) (by kernel_rfl) (hK24 _ ?_); clear hK24 K24
    refine pwp_seq_block fun K25 hK25 => ?_
    refine pwp_loopR (α := Nat × Bool) [1, 2, 6, 8, 9, 28, 29, 30, 46, 47] (fun (a26 : Nat × Bool) => [(10, .bool (a26.2)), (48, .int (a26.1))]) (fun (a26 : Nat × Bool) (h : Heap) (_ : Nat → Nat) => ((a26.1) ≤ (hldL s s.members.length (lnA s m.a)).length) ∧ ((a26.2) = ((hldL s s.members.length (lnA s m.a)).take (a26.1)).any (hzB s w m)) ∧ (Fr h s q ge gb gm gr gh gl ve vb vm vr lh lr bb s.members.length) ∧ (h (2, 0) = some (.rows 2 [Scaffold.enc s])) ∧ (h (9, c12 9) = some (.rows 3 [Member.enc m]))) (fun (a26 : Nat × Bool) => (hldL s s.members.length (lnA s m.a)).length - (a26.1)) (0, false) (by exact ⟨rfl, rfl, trivial⟩) (by exact ⟨by exact Nat.zero_le _, by exact (show false = (List.take 0 _).any _ by rw [List.take_zero]; rfl), by exact (Fr.set rfl (Fr.set rfl hI)), ((hset_ne (key_ne rfl)).trans ((hset_ne (key_ne rfl)).trans hihj13_0)), (hset_self _ _ _)⟩) fun a26 r27 h28 c29 hj30 => ?_
    obtain ⟨j, b⟩ := a26
    obtain ⟨hj, hb0, hI, hihj30_0, hihj30_1⟩ := hj30
    try dsimp only at hj
    try dsimp only at hb0
    try dsimp only at hI
    try dsimp only at hihj30_0
    try dsimp only at hihj30_1
    show pwp _ _ (loopQ _ _ _) ⟨sets (mix _ _ _) [(10, .bool b), (48, .int j)], _, _⟩
    refine pwp_seq_plain rfl fun K31 hK31 => ?_
    refine p_e rfl (e_lt rfl rfl) ?_
    refine p_end (hK31 _ ?_); clear hK31 K31
    refine pwp_seq_cond rfl fun K32 hK32 => ⟨fun hb33 => ?_, fun hb33 => ?_⟩
    ·have hb33R := hb33; try simp only [zz] at hb33
     have hjl : j < (hldL s s.members.length (lnA s m.a)).length := by simp only [List.length_map] at *; omega
     obtain ⟨z, hz⟩ : ∃ z, (hldL s s.members.length (lnA s m.a))[j]? = some z := ⟨_, List.getElem?_eq_getElem hjl⟩
     obtain ⟨hz0, hz1⟩ := hld_at hz
     have hll := hldL_len (s := s) (k := s.members.length) (a := lnA s m.a)
     obtain ⟨y, hy0⟩ : ∃ y, s.members[z.toNat]? = some y := ⟨_, List.getElem?_eq_getElem (by omega)⟩
     have hy : s.members[z.toNat]? = some (mG s z) := by rw [mG, mem_at hy0]; exact hy0
     obtain ⟨hza, hzb⟩ := scf_rng hsc hy
     have hzc := zA_b hsc hza
     refine pwp_skip ?_
     refine seq_norm (hK32 _ ?_); clear hK32 K32
     refine pwp_seq_block fun K34 hK34 => ?_
     obtain ⟨g, hu, hg⟩ := SliceAt.isRef (hI.hc (lnA s m.a)) (by intro q; have q2 := congrArg List.length q; simp only [List.length_map, List.length_nil] at q2; omega)
     refine pwp_seq_plain rfl fun K35 hK35 => ?_
     refine p_e rfl (e_ixaR0 (i := (j : Int)) (len := ((hldL s s.members.length (lnA s m.a)).map ci).length) hu rfl (by kernel_rfl) (by kernel_rfl) (by simp only [List.length_map]; omega)) ?_
     refine p_e rfl (e_loadI (a := z) rfl hg (by kernel_rfl) (by kernel_rfl) (by kernel_rfl) hz) ?_
     refine p_aS rfl ?_
     refine p_end (hK35 _ ?_); clear hK35 K35
     refine pwp_seq_plain rfl fun K36 hK36 => ?_
     refine p_e rfl (e_move (v := .ptr _ _ _ _) rfl) ?_
     refine p_e rfl (e_faQ pl2 rfl) ?_
     refine p_e rfl (e_lH (v := .lit _ _ _) rfl hihj30_0 rfl) ?_
     refine p_mS rfl ?_
     refine p_e rfl (e_ixL rfl rfl) ?_
     refine p_e rfl (e_fb pl3 rfl) ?_
     refine p_e rfl (e_load (v := .sc _) rfl (by kernel_rfl) (by kernel_rfl) (by kernel_rfl) (by first | omega | (simp only [List.length_map]; omega)) (by decide) ((cell_map hy _).trans rfl)) ?_
     refine p_hcall rfl (zM _ _ s q (mG s z).a _ hI.F hza) fun v2 h2 c2 hR => ?_
     obtain ⟨rfl, rfl, rfl⟩ := hR
     refine p_aS rfl ?_
     refine p_end (hK36 _ ?_); clear hK36 K36
     refine pwp_gops rfl fun K37 hK37 => ?_
     refine s_begin ?_
     refine s_e rfl (e_move (v := .sc _) rfl) ?_
     refine s_e rfl (e_move (v := .sc _) rfl) ?_
     refine s_cases (fun hb38 => ?_) (fun hb38 => ?_)
     ·have hb38R := hb38; try simp only [zz] at hb38
      refine s_skip rfl rfl rfl ?_
      refine s_skip rfl rfl rfl ?_
      refine s_skip rfl rfl rfl ?_
      refine s_skip rfl rfl rfl ?_
      refine s_nocall (args := [.dead, .dead]) [] (by intro k hk; simp [keysOf, Go.Pv.keyOf] at hk) rfl rfl rfl ?_
      refine s_skip rfl rfl rfl ?_
      refine s_skip rfl rfl rfl ?_
      refine s_skip rfl rfl rfl ?_
      refine s_skip rfl rfl rfl ?_
      refine s_skip rfl rfl rfl ?_
      refine s_nocall (args := [.dead, .dead]) [] (by intro k hk; simp [keysOf, Go.Pv.keyOf] at hk) rfl rfl rfl ?_
      refine s_skip rfl rfl rfl ?_
      refine s_skip rfl rfl rfl ?_
      refine s_skip rfl rfl rfl ?_
      refine s_skip rfl rfl rfl ?_
      refine s_skip rfl rfl rfl ?_
      refine s_e rfl (e_pickT (v := .sc _) rfl rfl) ?_
      refine s_e rfl (e_assign (v := .sc _) rfl) ?_
      refine s_end (ds := [62, 63, 64, 65, 66, 67, 68, 69, 70, 71, 72, 73, 74, 75, 76, 77]) (by kernel_rfl) (by kernel_rfl) (hK37 _ ?_); clear hK37 K37
      refine block_norm ?_
      refine seq_norm (hK34 _ ?_); clear hK34 K34
      refine pwp_plain rfl fun K39 hK39 => ?_
      refine p_e rfl (e_adL rfl rfl) ?_
      refine p_mS rfl ?_
      refine p_end (hK39 _ ?_); clear hK39 K39
      exact loop_again ((j + 1, true)) (by show _ < _; simp only; omega) ⟨rfl, rfl, rfl, rfl, rfl, rfl, rfl, rfl, rfl, rfl, trivial⟩ ⟨rfl, rfl, trivial⟩ (by exact ⟨by show _ + 1 ≤ _; omega, by first | exact fo_1 hz hb0 (by assumption) | exact fo_2 hz hb0 (by assumption) (by assumption) | exact fo_3 hz hb0 (by assumption) (by omega), by exact hI, hihj30_0, hihj30_1⟩)
     ·have hb38R := hb38; try simp only [zz] at hb38
      refine s_e rfl (e_move (v := .sc _) rfl) ?_
      refine s_e rfl (e_move (v := .ptr _ _ _ _) rfl) ?_
      refine s_e rfl (e_faQ pl3 rfl) ?_
      refine s_step [9] (by simp) rfl rfl rfl rfl (e_lH (v := .sc _) rfl hihj30_1 rfl) trivial ?_
      refine s_callM [(31, q)] [31] (by simp) rfl rfl rfl rfl (fun h' hh c' => zM h' c' s q m.a _ ((hh _ (by simp)).trans hI.F) hma) ?_
      refine s_e rfl (e_le rfl rfl) ?_
      refine s_e rfl (e_move (v := .sc _) rfl) ?_
      refine s_cases (fun hb40 => ?_) (fun hb40 => ?_)
      ·have hb40R := hb40; try simp only [zz] at hb40
       refine s_e rfl (e_move (v := .ptr _ _ _ _) rfl) ?_
       refine s_e rfl (e_faQ pl3 rfl) ?_
       refine s_step [9] (by simp) rfl rfl rfl rfl (e_lH (v := .sc _) rfl hihj30_1 rfl) trivial ?_
       refine s_callM [(31, q)] [31] (by simp) rfl rfl rfl rfl (fun h' hh c' => zM h' c' s q m.b _ ((hh _ (by simp)).trans hI.F) hmb) ?_
       refine s_e rfl (e_move (v := .sc _) rfl) ?_
       refine s_e rfl (e_move (v := .sc _) rfl) ?_
       refine s_e rfl (e_adL rfl rfl) ?_
       refine s_e rfl (e_le rfl rfl) ?_
       refine s_e rfl (e_pickT (v := .sc _) rfl rfl) ?_
       refine s_e rfl (e_pickF (v := .sc _) rfl rfl) ?_
       refine s_e rfl (e_assign (v := .sc _) rfl) ?_
       refine s_end (ds := [62, 63, 64, 65, 66, 67, 68, 69, 70, 71, 72, 73, 74, 75, 76, 77]) (by kernel_rfl) (by kernel_rfl) (hK37 _ ?_); clear hK37 K37
       refine block_norm ?_
       refine seq_norm (hK34 _ ?_); clear hK34 K34
       refine pwp_plain rfl fun K41 hK41 => ?_
       refine p_e rfl (e_adL rfl rfl) ?_
       refine p_mS rfl ?_
       refine p_end (hK41 _ ?_); clear hK41 K41
       exact loop_again ((j + 1, (decide ((zA s m.b) ≤ ((zA s (mG s z).a) + w))))) (by show _ < _; simp only; omega) ⟨rfl, rfl, rfl, rfl, rfl, rfl, rfl, rfl, rfl, rfl, trivial⟩ ⟨rfl, rfl, trivial⟩ (by exact ⟨by show _ + 1 ≤ _; omega, by first | exact fo_1 hz hb0 (by assumption) | exact fo_2 hz hb0 (by assumption) (by assumption) | exact fo_3 hz hb0 (by assumption) (by omega), by exact hI, hihj30_0, hihj30_1⟩)
      ·have hb40R := hb40; try simp only [zz] at hb40
       refine s_skip rfl rfl rfl ?_
       refine s_skip rfl rfl rfl ?_
       refine s_skip rfl rfl rfl ?_
       refine s_nocall (args := [.dead, .dead]) [] (by intro k hk; simp [keysOf, Go.Pv.keyOf] at hk) rfl rfl rfl ?_
       refine s_skip rfl rfl rfl ?_
       refine s_skip rfl rfl rfl ?_
       refine s_skip rfl rfl rfl ?_
       refine s_skip rfl rfl rfl ?_
       refine s_e rfl (e_pickF (v := .sc _) rfl rfl) ?_
       refine s_e rfl (e_pickF (v := .sc _) rfl rfl) ?_
       refine s_e rfl (e_assign (v := .sc _) rfl) ?_
       refine s_end (ds := [62, 63, 64, 65, 66, 67, 68, 69, 70, 71, 72, 73, 74, 75, 76, 77]) (by kernel_rfl) (by kernel_rfl) (hK37 _ ?_); clear hK37 K37
       refine block_norm ?_
       refine seq_norm (hK34 _ ?_); clear hK34 K34
       refine pwp_plain rfl fun K42 hK42 => ?_
       refine p_e rfl (e_adL rfl rfl) ?_
       refine p_mS rfl ?_
       refine p_end (hK42 _ ?_); clear hK42 K42
       exact loop_again ((j + 1, false)) (by show _ < _; simp only; omega) ⟨rfl, rfl, rfl, rfl, rfl, rfl, rfl, rfl, rfl, rfl, trivial⟩ ⟨rfl, rfl, trivial⟩ (by exact ⟨by show _ + 1 ≤ _; omega, by first | exact fo_1 hz hb0 (by assumption) | exact fo_2 hz hb0 (by assumption) (by assumption) | exact fo_3 hz hb0 (by assumption) (by omega), by exact hI, hihj30_0, hihj30_1⟩)
    ·have hb33R := hb33; try simp only [zz] at hb33
     have hjj : (hldL s s.members.length (lnA s m.a)).length ≤ j := by simp only [List.length_map] at *; omega
     refine pwp_exit ?_
     refine exit_seq ?_
     clear hK32 K32
     refine exit_loop ?_
     refine exit_here ?_
     refine seq_norm (hK25 _ ?_); clear hK25 K25
     refine pwp_seq_plain rfl fun K43 hK43 => ?_
     refine p_mS rfl ?_
     refine p_e rfl (e_not rfl) ?_
     refine p_end (hK43 _ ?_); clear hK43 K43
     refine pwp_cond rfl (fun hb44 => ?_) (fun hb44 => ?_)
     ·have hb44R := hb44; try simp only [zz] at hb44
      refine pwp_seq_plain rfl fun K45 hK45 => ?_
      refine p_mS rfl ?_
      refine p_aS rfl ?_
      refine p_aS rfl ?_
      refine p_end (hK45 _ ?_); clear hK45 K45
      refine pwp_ret ?_
      refine ret_block ?_
      refine ret_seq ?_
      refine ret_loop ?_
      refine ret_block ?_
      refine ret_seq ?_
      refine end2 (v := .sc _) (w := .sc _) rfl rfl ?_
      first
        | exact stb_2 hsc (by omega)
        | exact stb_i hsc hw (ixA_hit (K := lsB s w) hm hin (fo_t hb0 hjj (by omega) (by assumption)))
        | exact stb_i hsc hw (ixA_no (K := lsB s w) hin (by simp only [List.length_map] at *; omega))
     ·have hb44R := hb44; try simp only [zz] at hb44
      refine pwp_skip ?_
      refine block_norm ?_
      refine seq_norm (hK17 _ ?_); clear hK17 K17
      refine pwp_plain rfl fun K46 hK46 => ?_
      refine p_e rfl (e_adL rfl rfl) ?_
      refine p_mS rfl ?_
      refine p_end (hK46 _ ?_); clear hK46 K46
      exact loop_again (k + 1) (by show _ < _; omega) ⟨rfl, rfl, rfl, rfl, rfl, trivial⟩ ⟨rfl, trivial⟩ (by exact ⟨by show _ + 1 ≤ _; simp only [List.length_map] at *; omega, by first | exact nx_step (K := lsB s w) hin hm (ls_k (by omega)) | exact nx_step (K := lsB s w) hin hm (fo_f hb0 hjj (by assumption)), by exact hI, hihj30_0⟩)
  ·have hb16R := hb16; try simp only [zz] at hb16
   refine pwp_exit ?_
   refine exit_seq ?_
   clear hK15 K15
   refine exit_loop ?_
   refine exit_here ?_
   refine seq_norm (hK9 _ ?_); clear hK9 K9
   refine pwp_seq_plain rfl fun K47 hK47 => ?_
   refine p_aS rfl ?_
   refine p_aS rfl ?_
   refine p_end (hK47 _ ?_); clear hK47 K47
   refine pwp_ret ?_
   refine end2 (v := .sc _) (w := .sc _) rfl rfl ?_
   first
     | exact stb_2 hsc (by omega)
     | exact stb_i hsc hw (ixA_hit (K := lsB s w) hm hin (fo_t hb0 hjj (by omega) (by assumption)))
     | exact stb_i hsc hw (ixA_no (K := lsB s w) hin (by simp only [List.length_map] at *; omega))

theorem StableC (s : Scaffold) (w : Int) (hs1 : s.nodes.length ≤ 30) (hs2 : s.members.length ≤ 40) : PCalls Try.prog 55 [.agg s.enc, .int w] (.tup [.int (stbX s w).1, .int (stbX s w).2]) := by
 by_cases h : scfE s = 0
 · exact Stable0 s w hs1 hs2 h
 · exact StableE s w hs1 hs2 h

theorem fr12 : (inFrame Try.f12.ntmps (Try.f12.body.getD .skip) && Try.f12.results.toList.all (resScope Try.f12.ntmps)) = true := by kernel_rfl
theorem hStable (s : Scaffold) (w : Int) (hs1 : s.nodes.length ≤ 9223372036854775807) (hs2 : s.members.length ≤ 9223372036854775807) : PCalls Try.prog 12 [.agg s.enc, .int w] (.bool true) := by
 refine PCalls.of_code Try.func12 rfl rfl (by kernel_rfl) mixed fr12 (by show _ ≤ 46; simp) (.sc _) ?_
 have hst := stb_c s w
 refine pwp_seq_plain rfl fun K1 hK1 => ?_
 refine p_new rfl (e_box (n := 2) rfl rfl) ⟨rfl, by decide⟩ ?_
 refine p_aS rfl ?_
 refine p_end (hK1 _ ?_); clear hK1 K1
 refine pwp_seq_seq ?_
 refine pwp_seq_plain rfl fun K2 hK2 => ?_
 refine p_call rfl .nil (awake) ?_
 refine p_e rfl (e_not rfl) ?_
 refine p_end (hK2 _ ?_); clear hK2 K2
 refine pwp_seq_cond (t := false) rfl fun K3 hK3 => ⟨nofun, fun _ => ?_⟩
 refine pwp_skip ?_
 refine seq_norm (hK3 _ ?_); clear hK3 K3
 refine pwp_seq_seq ?_
 refine pwp_seq_plain rfl fun K4 hK4 => ?_
 refine p_e rfl (e_loadHA (cs := Scaffold.enc (s)) (n := 2) rfl (hset_self _ _ _) (by kernel_rfl) (by kernel_rfl) (by kernel_rfl) (by exact Nat.zero_lt_one) (by decide) rfl) ?_
 refine p_call rfl (.cons (inn_agg (Scaffold.pure _)) .nil) (SmallScf s hs1 hs2) ?_
 refine p_e rfl (e_not rfl) ?_
 refine p_end (hK4 _ ?_); clear hK4 K4
 refine pwp_seq_cond rfl fun K5 hK5 => ⟨fun hb6 => ?_, fun hb6 => ?_⟩
 ·have hb6R := hb6; try simp only [zz] at hb6
  refine pwp_seq_plain rfl fun K7 hK7 => ?_
  refine p_aS rfl ?_
  refine p_end (hK7 _ ?_); clear hK7 K7
  refine pwp_ret ?_
  refine ret_seq ?_
  refine end1 (v := .sc _) rfl ?_
  first
    | exact out_b rfl
    | exact out_b (by rw [decide_eq_true_eq]; omega)
    | (exfalso; omega)
 ·have hb6R := hb6; try simp only [zz] at hb6
  refine pwp_skip ?_
  refine seq_norm (hK5 _ ?_); clear hK5 K5
  have hsm := sml_iff.1 (by assumption)
  refine pwp_seq_plain rfl fun K8 hK8 => ?_
  refine p_e rfl (e_loadHA (cs := Scaffold.enc (s)) (n := 2) rfl (hset_self _ _ _) (by kernel_rfl) (by kernel_rfl) (by kernel_rfl) (by exact Nat.zero_lt_one) (by decide) rfl) ?_
  refine p_mS rfl ?_
  refine p_call rfl (.cons (inn_agg (Scaffold.pure _)) (.cons inn_sc .nil)) (StableC s w hsm.1 hsm.2) ?_
  refine p_e rfl (e_move (v := .tup _) rfl) ?_
  refine p_e rfl (e_ext (v := .sc _) rfl (by simp) rfl) ?_
  refine p_e rfl (e_ext (v := .sc _) rfl (by simp) rfl) ?_
  refine p_aS rfl ?_
  refine p_aS rfl ?_
  refine p_end (hK8 _ ?_); clear hK8 K8
  refine pwp_seq_plain rfl fun K9 hK9 => ?_
  refine p_e rfl (e_loadHA (cs := Scaffold.enc (s)) (n := 2) rfl (hset_self _ _ _) (by kernel_rfl) (by kernel_rfl) (by kernel_rfl) (by exact Nat.zero_lt_one) (by decide) rfl) ?_
  refine p_call rfl (.cons (inn_agg (Scaffold.pure _)) .nil) (refScfC s (by omega) (by omega)) ?_
  refine p_aS rfl ?_
  refine p_end (hK9 _ ?_); clear hK9 K9
  refine pwp_seq_seq ?_
  refine pwp_seq_gops rfl fun K10 hK10 => ?_
  refine g_begin ?_
  refine g_mS rfl rfl ?_
  refine g_e rfl (e_eq rfl rfl) ?_
  refine g_mS rfl rfl ?_
  refine g_cases (fun hb11 => ?_) (fun hb11 => ?_)
  ·have hb11R := hb11; try simp only [zz] at hb11
   refine g_mS rfl rfl ?_
   refine g_call rfl rfl rfl rfl (.cons inn_sc (.cons inn_sc (.cons inn_sc .nil))) (Within _ _ _) ?_
   refine g_e rfl (e_not rfl) ?_
   refine g_pT rfl rfl rfl ?_
   refine g_end (ds := [24, 25, 26]) rfl rfl (hK10 _ ?_); clear hK10 K10
   refine pwp_seq_cond rfl fun K12 hK12 => ⟨fun hb13 => ?_, fun hb13 => ?_⟩
   ·have hb13R := hb13; try simp only [zz] at hb13
    refine pwp_plain rfl fun K14 hK14 => ?_
    refine p_aS rfl ?_
    refine p_end (hK14 _ ?_); clear hK14 K14
    refine seq_norm (hK12 _ ?_); clear hK12 K12
    refine pwp_seq_seq ?_
    refine pwp_seq_plain rfl fun K15 hK15 => ?_
    refine p_mS rfl ?_
    refine p_e rfl (e_ne rfl rfl) ?_
    refine p_end (hK15 _ ?_); clear hK15 K15
    refine pwp_seq_cond rfl fun K16 hK16 => ⟨fun hb17 => ?_, fun hb17 => ?_⟩
    ·have hb17R := hb17; try simp only [zz] at hb17
     refine pwp_seq_gops rfl fun K18 hK18 => ?_
     refine g_begin ?_
     refine g_mS rfl rfl ?_
     refine g_mS rfl rfl ?_
     refine g_e rfl (e_eq rfl rfl) ?_
     refine g_mS rfl rfl ?_
     refine g_cases (fun hb19 => ?_) (fun hb19 => ?_)
     ·have hb19R := hb19; try simp only [zz] at hb19
      refine g_mS rfl rfl ?_
      refine g_e rfl (e_eq rfl rfl) ?_
      refine g_pT rfl rfl rfl ?_
      refine g_aS rfl rfl ?_
      refine g_end (ds := [34, 35]) rfl rfl (hK18 _ ?_); clear hK18 K18
      refine pwp_ret ?_
      refine ret_seq ?_
      refine end1 (v := .sc _) rfl ?_
      first
        | exact out_b rfl
        | exact out_b (by rw [decide_eq_true_eq]; omega)
        | (exfalso; omega)
     ·have hb19R := hb19; try simp only [zz] at hb19
      iterate 2 refine g_skip rfl rfl rfl ?_
      refine g_pF rfl rfl rfl ?_
      refine g_aS rfl rfl ?_
      refine g_end (ds := [34, 35]) rfl rfl (hK18 _ ?_); clear hK18 K18
      refine pwp_ret ?_
      refine ret_seq ?_
      refine end1 (v := .sc _) rfl ?_
      first
        | exact out_b rfl
        | exact out_b (by rw [decide_eq_true_eq]; omega)
        | (exfalso; omega)
    ·have hb17R := hb17; try simp only [zz] at hb17
     refine pwp_skip ?_
     refine seq_norm (hK16 _ ?_); clear hK16 K16
     refine pwp_seq_gops rfl fun K20 hK20 => ?_
     refine g_begin ?_
     refine g_mS rfl rfl ?_
     refine g_e rfl (e_eq rfl rfl) ?_
     refine g_mS rfl rfl ?_
     refine g_cases (fun hb21 => ?_) (fun hb21 => ?_)
     ·have hb21R := hb21; try simp only [zz] at hb21
      refine g_mS rfl rfl ?_
      refine g_e rfl (e_loadHA (cs := Scaffold.enc (s)) (n := 2) rfl (hset_self _ _ _) (by kernel_rfl) (by kernel_rfl) (by kernel_rfl) (by exact Nat.zero_lt_one) (by decide) rfl) ?_
      refine g_mS rfl rfl ?_
      refine g_call rfl rfl rfl rfl (.cons (inn_agg (Scaffold.pure _)) (.cons inn_sc .nil)) (refStableC s w hsm.1 hsm.2 (by omega)) ?_
      refine g_e rfl (e_eq rfl rfl) ?_
      refine g_pT rfl rfl rfl ?_
      refine g_aS rfl rfl ?_
      refine g_end (ds := [40, 41, 42, 43, 44]) rfl rfl (hK20 _ ?_); clear hK20 K20
      refine pwp_ret ?_
      refine end1 (v := .sc _) rfl ?_
      first
        | exact out_b rfl
        | exact out_b (by rw [decide_eq_true_eq]; omega)
        | (exfalso; omega)
     ·have hb21R := hb21; try simp only [zz] at hb21
      iterate 3 refine g_skip rfl rfl rfl ?_
      refine g_nocall rfl rfl rfl ?_
      refine g_skip rfl rfl rfl ?_
      refine g_pF rfl rfl rfl ?_
      refine g_aS rfl rfl ?_
      refine g_end (ds := [40, 41, 42, 43, 44]) rfl rfl (hK20 _ ?_); clear hK20 K20
      refine pwp_ret ?_
      refine end1 (v := .sc _) rfl ?_
      first
        | exact out_b rfl
        | exact out_b (by rw [decide_eq_true_eq]; omega)
        | (exfalso; omega)
   ·have hb13R := hb13; try simp only [zz] at hb13
    refine pwp_skip ?_
    refine seq_norm (hK12 _ ?_); clear hK12 K12
    refine pwp_seq_seq ?_
    refine pwp_seq_plain rfl fun K22 hK22 => ?_
    refine p_mS rfl ?_
    refine p_e rfl (e_ne rfl rfl) ?_
    refine p_end (hK22 _ ?_); clear hK22 K22
    refine pwp_seq_cond rfl fun K23 hK23 => ⟨fun hb24 => ?_, fun hb24 => ?_⟩
    ·have hb24R := hb24; try simp only [zz] at hb24
     refine pwp_seq_gops rfl fun K25 hK25 => ?_
     refine g_begin ?_
     refine g_mS rfl rfl ?_
     refine g_mS rfl rfl ?_
     refine g_e rfl (e_eq rfl rfl) ?_
     refine g_mS rfl rfl ?_
     refine g_cases (fun hb26 => ?_) (fun hb26 => ?_)
     ·have hb26R := hb26; try simp only [zz] at hb26
      refine g_mS rfl rfl ?_
      refine g_e rfl (e_eq rfl rfl) ?_
      refine g_pT rfl rfl rfl ?_
      refine g_aS rfl rfl ?_
      refine g_end (ds := [34, 35]) rfl rfl (hK25 _ ?_); clear hK25 K25
      refine pwp_ret ?_
      refine ret_seq ?_
      refine end1 (v := .sc _) rfl ?_
      first
        | exact out_b rfl
        | exact out_b (by rw [decide_eq_true_eq]; omega)
        | (exfalso; omega)
     ·have hb26R := hb26; try simp only [zz] at hb26
      iterate 2 refine g_skip rfl rfl rfl ?_
      refine g_pF rfl rfl rfl ?_
      refine g_aS rfl rfl ?_
      refine g_end (ds := [34, 35]) rfl rfl (hK25 _ ?_); clear hK25 K25
      refine pwp_ret ?_
      refine ret_seq ?_
      refine end1 (v := .sc _) rfl ?_
      first
        | exact out_b rfl
        | exact out_b (by rw [decide_eq_true_eq]; omega)
        | (exfalso; omega)
    ·have hb24R := hb24; try simp only [zz] at hb24
     refine pwp_skip ?_
     refine seq_norm (hK23 _ ?_); clear hK23 K23
     refine pwp_seq_gops rfl fun K27 hK27 => ?_
     refine g_begin ?_
     refine g_mS rfl rfl ?_
     refine g_e rfl (e_eq rfl rfl) ?_
     refine g_mS rfl rfl ?_
     refine g_cases (fun hb28 => ?_) (fun hb28 => ?_)
     ·have hb28R := hb28; try simp only [zz] at hb28
      refine g_mS rfl rfl ?_
      refine g_e rfl (e_loadHA (cs := Scaffold.enc (s)) (n := 2) rfl (hset_self _ _ _) (by kernel_rfl) (by kernel_rfl) (by kernel_rfl) (by exact Nat.zero_lt_one) (by decide) rfl) ?_
      refine g_mS rfl rfl ?_
      refine g_call rfl rfl rfl rfl (.cons (inn_agg (Scaffold.pure _)) (.cons inn_sc .nil)) (refStableC s w hsm.1 hsm.2 (by omega)) ?_
      refine g_e rfl (e_eq rfl rfl) ?_
      refine g_pT rfl rfl rfl ?_
      refine g_aS rfl rfl ?_
      refine g_end (ds := [40, 41, 42, 43, 44]) rfl rfl (hK27 _ ?_); clear hK27 K27
      refine pwp_ret ?_
      refine end1 (v := .sc _) rfl ?_
      first
        | exact out_b rfl
        | exact out_b (by rw [decide_eq_true_eq]; omega)
        | (exfalso; omega)
     ·have hb28R := hb28; try simp only [zz] at hb28
      iterate 3 refine g_skip rfl rfl rfl ?_
      refine g_nocall rfl rfl rfl ?_
      refine g_skip rfl rfl rfl ?_
      refine g_pF rfl rfl rfl ?_
      refine g_aS rfl rfl ?_
      refine g_end (ds := [40, 41, 42, 43, 44]) rfl rfl (hK27 _ ?_); clear hK27 K27
      refine pwp_ret ?_
      refine end1 (v := .sc _) rfl ?_
      first
        | exact out_b rfl
        | exact out_b (by rw [decide_eq_true_eq]; omega)
        | (exfalso; omega)
  ·have hb11R := hb11; try simp only [zz] at hb11
   refine g_skip rfl rfl rfl ?_
   refine g_nocall rfl rfl rfl ?_
   refine g_skip rfl rfl rfl ?_
   refine g_pF rfl rfl rfl ?_
   refine g_end (ds := [24, 25, 26]) rfl rfl (hK10 _ ?_); clear hK10 K10
   refine pwp_seq_cond (t := false) rfl fun K29 hK29 => ⟨nofun, fun _ => ?_⟩
   refine pwp_skip ?_
   refine seq_norm (hK29 _ ?_); clear hK29 K29
   refine pwp_seq_seq ?_
   refine pwp_seq_plain rfl fun K30 hK30 => ?_
   refine p_mS rfl ?_
   refine p_e rfl (e_ne rfl rfl) ?_
   refine p_end (hK30 _ ?_); clear hK30 K30
   refine pwp_seq_cond rfl fun K31 hK31 => ⟨fun hb32 => ?_, fun hb32 => ?_⟩
   ·have hb32R := hb32; try simp only [zz] at hb32
    refine pwp_seq_gops rfl fun K33 hK33 => ?_
    refine g_begin ?_
    refine g_mS rfl rfl ?_
    refine g_mS rfl rfl ?_
    refine g_e rfl (e_eq rfl rfl) ?_
    refine g_mS rfl rfl ?_
    refine g_cases (fun hb34 => ?_) (fun hb34 => ?_)
    ·have hb34R := hb34; try simp only [zz] at hb34
     refine g_mS rfl rfl ?_
     refine g_e rfl (e_eq rfl rfl) ?_
     refine g_pT rfl rfl rfl ?_
     refine g_aS rfl rfl ?_
     refine g_end (ds := [34, 35]) rfl rfl (hK33 _ ?_); clear hK33 K33
     refine pwp_ret ?_
     refine ret_seq ?_
     refine end1 (v := .sc _) rfl ?_
     first
       | exact out_b rfl
       | exact out_b (by rw [decide_eq_true_eq]; omega)
       | (exfalso; omega)
    ·have hb34R := hb34; try simp only [zz] at hb34
     iterate 2 refine g_skip rfl rfl rfl ?_
     refine g_pF rfl rfl rfl ?_
     refine g_aS rfl rfl ?_
     refine g_end (ds := [34, 35]) rfl rfl (hK33 _ ?_); clear hK33 K33
     refine pwp_ret ?_
     refine ret_seq ?_
     refine end1 (v := .sc _) rfl ?_
     first
       | exact out_b rfl
       | exact out_b (by rw [decide_eq_true_eq]; omega)
       | (exfalso; omega)
   ·have hb32R := hb32; try simp only [zz] at hb32
    refine pwp_skip ?_
    refine seq_norm (hK31 _ ?_); clear hK31 K31
    refine pwp_seq_gops rfl fun K35 hK35 => ?_
    refine g_begin ?_
    refine g_mS rfl rfl ?_
    refine g_e rfl (e_eq rfl rfl) ?_
    refine g_mS rfl rfl ?_
    refine g_cases (fun hb36 => ?_) (fun hb36 => ?_)
    ·have hb36R := hb36; try simp only [zz] at hb36
     refine g_mS rfl rfl ?_
     refine g_e rfl (e_loadHA (cs := Scaffold.enc (s)) (n := 2) rfl (hset_self _ _ _) (by kernel_rfl) (by kernel_rfl) (by kernel_rfl) (by exact Nat.zero_lt_one) (by decide) rfl) ?_
     refine g_mS rfl rfl ?_
     refine g_call rfl rfl rfl rfl (.cons (inn_agg (Scaffold.pure _)) (.cons inn_sc .nil)) (refStableC s w hsm.1 hsm.2 (by omega)) ?_
     refine g_e rfl (e_eq rfl rfl) ?_
     refine g_pT rfl rfl rfl ?_
     refine g_aS rfl rfl ?_
     refine g_end (ds := [40, 41, 42, 43, 44]) rfl rfl (hK35 _ ?_); clear hK35 K35
     refine pwp_ret ?_
     refine end1 (v := .sc _) rfl ?_
     first
       | exact out_b rfl
       | exact out_b (by rw [decide_eq_true_eq]; omega)
       | (exfalso; omega)
    ·have hb36R := hb36; try simp only [zz] at hb36
     iterate 3 refine g_skip rfl rfl rfl ?_
     refine g_nocall rfl rfl rfl ?_
     refine g_skip rfl rfl rfl ?_
     refine g_pF rfl rfl rfl ?_
     refine g_aS rfl rfl ?_
     refine g_end (ds := [40, 41, 42, 43, 44]) rfl rfl (hK35 _ ?_); clear hK35 K35
     refine pwp_ret ?_
     refine end1 (v := .sc _) rfl ?_
     first
       | exact out_b rfl
       | exact out_b (by rw [decide_eq_true_eq]; omega)
       | (exfalso; omega)

end Go.Proofs.Ytjmjiegplnfiiaa
