import Derived.Test.YtmlhhdiomijpfaaGreatDoorEFew
import Derived.Test.YtmlhhdiomijpfaaGreatDoorEAwake
import Derived.Test.YtmlhhdiomijpfaaGreatDoorERai
set_option linter.unusedSimpArgs false
set_option linter.unusedVariables false
set_option maxRecDepth 100000
namespace Go.Proofs.YtmlhhdiomijpfaaGreatDoor.E7
open Go Go.Pv Go.Proofs.YtmlhhdiomijpfaaGreatDoor
theorem e_eqT {P : Program} {ρ : Operand → PV} {h : Heap} {key : Key} {x y : Operand} {t t' : TypeId} {k : IntKind} {a : Int} (hx : ρ x = .sc (.int k a)) (hy : ρ y = .sc (.int k a)) : eff P ρ h key (.binOp .eql t x y t') = ⟨True, .bool true, [], [], false⟩ := by
 rw [e_eq hx hy, decide_eq_true rfl]
def rigB : ByteArray := ⟨#[114, 105, 103, 103, 101, 114]⟩
def planX : List Task := [⟨⟨#[98, 97, 115, 101]⟩, rigB, -1, 0, 3, []⟩, ⟨⟨#[112, 111, 115, 116]⟩, rigB, -1, 0, 10, [0]⟩, ⟨⟨#[114, 97, 105, 108]⟩, rigB, -1, 1, 5, [0]⟩, ⟨⟨#[100, 101, 99, 107]⟩, rigB, -1, 0, 6, [1, 2]⟩]
theorem plan_raise : Raises [.lit true 6 planRows] [.lit true 6 (planX.map Task.enc)] := by
 have hn : ∀ l : List Int, Raise (.lit false 1 (l.map ci)) (.lit true 1 (l.map ci)) := fun l => .row rfl fun i row row' h1 h2 => by
   rw [h1] at h2; cases h2
   have : ∀ r : List PV, Raises r r := fun r => by
     induction r with
     | nil => exact .nil
     | cons p r ih => exact .cons (.same p) ih
   exact this row
 refine .cons (.row rfl fun i row row' h1 h2 => ?_) .nil
 match i with
 | 0 => cases h1; cases h2; exact .cons (.same _) (.cons (.same _) (.cons (.same _) (.cons (.same _) (.cons (.same _) (.cons (.nil 1) .nil)))))
 | 1 => cases h1; cases h2; exact .cons (.same _) (.cons (.same _) (.cons (.same _) (.cons (.same _) (.cons (.same _) (.cons (hn [0]) .nil)))))
 | 2 => cases h1; cases h2; exact .cons (.same _) (.cons (.same _) (.cons (.same _) (.cons (.same _) (.cons (.same _) (.cons (hn [0]) .nil)))))
 | 3 => cases h1; cases h2; exact .cons (.same _) (.cons (.same _) (.cons (.same _) (.cons (.same _) (.cons (.same _) (.cons (hn [1, 2]) .nil)))))
 | i + 4 => simp [planRows] at h1
theorem plan_fair : Fair planX := by
 intro x hx;simp only [planX, List.mem_cons, List.not_mem_nil, or_false] at hx;rcases hx with rfl | rfl | rfl | rfl <;> decide
theorem plan_few : fewR planX = ([0, 1, 2, 3], 2, 0) := by decide +kernel
theorem fewest_c : PCalls Tryz.prog 37 [.lit true 6 planRows] (.tup [.lit false 1 (([0, 1, 2, 3] : List Int).map ci), .int 2, .int 0]) := by
 have h := PCalls.raise (FewestC planX (by decide) plan_fair (.inl (by decide))) plan_raise;rw [plan_few] at h; exact h
theorem ints_c (l : List Int) (h : l.length ≤ 1000000) : PCalls Tryz.prog 39 [.lit true 1 (l.map ci), .lit true 1 (l.map ci)] (.bool true) := by
 have h := IntsC l l h;rw [decide_eq_true rfl] at h; exact h
theorem fr11 : (inFrame Tryz.f11.ntmps (Tryz.f11.body.getD .skip) && Tryz.f11.results.toList.all (resScope Tryz.f11.ntmps)) = true := by kernel_rfl
theorem awake  : PCalls Tryz.prog 11 [] (.bool true) := by
 refine PCalls.of_code Tryz.func11 rfl rfl (by kernel_rfl) mixed fr11 (by show _ ≤ 59; simp) (.sc _) (pwp_seq_plain rfl fun K1 hK1 => p_aS rfl (p_end (hK1 _ ?_))); clear hK1 K1;refine pwp_seq_plain rfl fun K2 hK2 => p_call rfl .nil (plan_c) (p_call rfl (.cons inn_lit .nil) (order_c) (p_e rfl (e_move (v := .tup _) rfl) (p_e rfl (e_ext (v := .lit _ _ _) rfl (by simp) rfl) (p_e rfl (e_ext (v := .sc _) rfl (by simp) rfl) (p_e rfl (e_assign (v := .lit _ _ _) rfl) (p_aS rfl ?_))))));refine p_end (hK2 _ ?_); clear hK2 K2;refine pwp_seq_plain rfl fun K3 hK3 => p_call rfl .nil (plan_c) (p_call rfl (.cons inn_lit .nil) (fewest_c) (p_e rfl (e_move (v := .tup _) rfl) (p_e rfl (e_ext (v := .lit _ _ _) rfl (by simp) rfl) (p_e rfl (e_ext (v := .sc _) rfl (by simp) rfl) (p_e rfl (e_ext (v := .sc _) rfl (by simp) rfl) (p_e rfl (e_assign (v := .lit _ _ _) rfl) ?_))))));refine p_aS rfl (p_aS rfl (p_end (hK3 _ ?_))); clear hK3 K3;refine pwp_seq_plain rfl fun K4 hK4 => p_call rfl .nil (plan_c) (p_call rfl (.cons inn_lit .nil) (critical_c) (p_e rfl (e_move (v := .tup _) rfl) (p_e rfl (e_ext (v := .sc _) rfl (by simp) rfl) (p_e rfl (e_ext (v := .lit _ _ _) rfl (by simp) rfl) (p_e rfl (e_ext (v := .sc _) rfl (by simp) rfl) (p_aS rfl ?_))))));refine p_e rfl (e_assign (v := .lit _ _ _) rfl) (p_aS rfl (p_end (hK4 _ ?_))); clear hK4 K4;refine pwp_seq_gops rfl fun K5 hK5 => s_begin (s_e rfl (e_move (v := .sc _) rfl) (s_e rfl (e_eqT rfl rfl) (s_e rfl (e_move (v := .sc _) rfl) (s_e rfl (e_move (v := .lit _ _ _) rfl) (s_new [] (by simp) rfl rfl rfl rfl (e_bslice (rows := ([0, 1, 2, 3] : List Int).map ci) (zs := [.int 0]) (sz := 1) (by kernel_rfl) (by kernel_rfl) rfl (by kernel_rfl) (by decide) rfl rfl (by exact ⟨by decide, rfl, rfl, ⟨by decide, rfl, rfl, ⟨by decide, rfl, rfl, ⟨by decide, rfl, rfl, trivial⟩⟩⟩⟩) rfl) trivial (s_call (args := [.lit _ _ _, .ref _ _ _ _]) [30] (by intro k hk; simp [keysOf, Go.Pv.keyOf] at hk; try (subst hk; simp)) rfl rfl rfl rfl (.cons inn_lit (.cons (inn_ref (rows := ([0, 1, 2, 3] : List Int).map ci) (hset_self _ _ _) (by simp) rfl (by exact pure_map ci_pure)) .nil)) (ints_c _ (by decide)) ?_))))));refine s_e rfl (e_pickT (v := .sc _) rfl rfl) (s_e rfl (e_move (v := .sc _) rfl) (s_e rfl (e_move (v := .sc _) rfl) (s_e rfl (e_eqT rfl rfl) (s_e rfl (e_pickT (v := .sc _) rfl rfl) (s_e rfl (e_move (v := .sc _) rfl) (s_e rfl (e_move (v := .lit _ _ _) rfl) (s_new [] (by simp) rfl rfl rfl rfl (e_bslice (rows := ([0, 1, 2, 3] : List Int).map ci) (zs := [.int 0]) (sz := 1) (by kernel_rfl) (by kernel_rfl) rfl (by kernel_rfl) (by decide) rfl rfl (by exact ⟨by decide, rfl, rfl, ⟨by decide, rfl, rfl, ⟨by decide, rfl, rfl, ⟨by decide, rfl, rfl, trivial⟩⟩⟩⟩) rfl) trivial ?_)))))));refine s_call (args := [.lit _ _ _, .ref _ _ _ _]) [39] (by intro k hk; simp [keysOf, Go.Pv.keyOf] at hk; try (subst hk; simp)) rfl rfl rfl rfl (.cons inn_lit (.cons (inn_ref (rows := ([0, 1, 2, 3] : List Int).map ci) (hset_self _ _ _) (by simp) rfl (by exact pure_map ci_pure)) .nil)) (ints_c _ (by decide)) (s_e rfl (e_pickT (v := .sc _) rfl rfl) (s_e rfl (e_move (v := .sc _) rfl) (s_e rfl (e_move (v := .sc _) rfl) (s_e rfl (e_eqT rfl rfl) (s_e rfl (e_pickT (v := .sc _) rfl rfl) (s_e rfl (e_move (v := .sc _) rfl) (s_e rfl (e_move (v := .sc _) rfl) ?_)))))));refine s_e rfl (e_eqT rfl rfl) (s_e rfl (e_pickT (v := .sc _) rfl rfl) (s_e rfl (e_move (v := .sc _) rfl) (s_e rfl (e_move (v := .sc _) rfl) (s_e rfl (e_eqT rfl rfl) (s_e rfl (e_pickT (v := .sc _) rfl rfl) (s_e rfl (e_move (v := .sc _) rfl) (s_e rfl (e_move (v := .lit _ _ _) rfl) ?_)))))));refine s_new [] (by simp) rfl rfl rfl rfl (e_bslice (rows := ([0, 1, 3] : List Int).map ci) (zs := [.int 0]) (sz := 1) (by kernel_rfl) (by kernel_rfl) rfl (by kernel_rfl) (by decide) rfl rfl (by exact ⟨by decide, rfl, rfl, ⟨by decide, rfl, rfl, ⟨by decide, rfl, rfl, trivial⟩⟩⟩) rfl) trivial (s_call (args := [.lit _ _ _, .ref _ _ _ _]) [56] (by intro k hk; simp [keysOf, Go.Pv.keyOf] at hk; try (subst hk; simp)) rfl rfl rfl rfl (.cons inn_lit (.cons (inn_ref (rows := ([0, 1, 3] : List Int).map ci) (hset_self _ _ _) (by simp) rfl (by exact pure_map ci_pure)) .nil)) (ints_c _ (by decide)) (s_e rfl (e_pickT (v := .sc _) rfl rfl) (s_e rfl (e_assign (v := .sc _) rfl) (s_end (ds := [29, 30, 31, 34, 35, 38, 39, 40, 43, 44, 47, 48, 51, 52, 55, 56, 57]) (by kernel_rfl) (by kernel_rfl) (hK5 _ ?_))))); clear hK5 K5;refine pwp_ret (end1 (v := .sc _) rfl ?_);exact out_b rfl
end Go.Proofs.YtmlhhdiomijpfaaGreatDoor.E7
