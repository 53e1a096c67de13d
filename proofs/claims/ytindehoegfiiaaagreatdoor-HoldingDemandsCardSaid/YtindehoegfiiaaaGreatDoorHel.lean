/- Held. No conditions. -/
import Derived.Test.YtindehoegfiiaaaGreatDoorDem
set_option linter.unusedSimpArgs false
set_option linter.unusedVariables false
set_option maxRecDepth 100000
namespace Go.Proofs.YtindehoegfiiaaaGreatDoor
open Go Go.Pv
theorem endTCT {P : Program} {R : PV → Heap → (Nat → Nat) → Prop} {r : Nat → PV} {h : Heap} {cnt : Nat → Nat} {a b d : Nat} {t : TypeId} {k : Key} {n : Nat} {cs : List PV} {v w : PV} (hv : r a = v) (hx : r b = .ptr k n 0 0) (hk : h k = some (.rows n [cs])) (hg : tyAgg P t = true) (hs : tySize P t = n) (ht : tyOk P t = true) (hl : cs.length = n) (hw : r d = w)
   (hR : R (.tup [v, .agg cs, w]) h cnt) : endQ P [.tmp a, .cell b t, .tmp d] R .ret ⟨r, h, cnt⟩ := by
 have h1 : aggAt [cs] 0 0 n = cs := by subst hl; simp [aggAt]
 have h2 : loadEff P h t (r b) = ⟨True, .agg cs, [], [k], false⟩ := by
   rw [hx]; simp only [loadEff, hk, hg, hs, ht, h1]; simp
 have e2 : resOf P ⟨r, h, cnt⟩ (.cell b t) = ((loadEff P h t (r b)).ob, (loadEff P h t (r b)).v) := rfl
 refine ⟨fun x hx => ?_, ?_⟩
 · simp only [List.mem_cons, List.not_mem_nil, or_false] at hx
   rcases hx with rfl | rfl | rfl
   · trivial
   · rw [e2, h2]; trivial
   · trivial
 · show R (.tup [r a, (resOf P ⟨r, h, cnt⟩ (.cell b t)).2, r d]) h cnt
   rw [e2, h2, hv, hw]; exact hR
theorem endTC {P : Program} {R : PV → Heap → (Nat → Nat) → Prop} {r : Nat → PV} {h : Heap} {cnt : Nat → Nat} {a b : Nat} {t : TypeId} {k : Key} {n : Nat} {cs : List PV} {v : PV} (hv : r a = v) (hx : r b = .ptr k n 0 0) (hk : h k = some (.rows n [cs])) (hg : tyAgg P t = true) (hs : tySize P t = n) (ht : tyOk P t = true) (hl : cs.length = n)
   (hR : R (.tup [v, .agg cs]) h cnt) : endQ P [.tmp a, .cell b t] R .ret ⟨r, h, cnt⟩ := by
 have h1 : aggAt [cs] 0 0 n = cs := by subst hl; simp [aggAt]
 have h2 : loadEff P h t (r b) = ⟨True, .agg cs, [], [k], false⟩ := by
   rw [hx]; simp only [loadEff, hk, hg, hs, ht, h1]; simp
 have e2 : resOf P ⟨r, h, cnt⟩ (.cell b t) = ((loadEff P h t (r b)).ob, (loadEff P h t (r b)).v) := rfl
 refine ⟨fun x hx => ?_, ?_⟩
 · simp only [List.mem_cons, List.not_mem_nil, or_false] at hx
   rcases hx with rfl | rfl
   · trivial
   · rw [e2, h2]; trivial
 · show R (.tup [r a, (resOf P ⟨r, h, cnt⟩ (.cell b t)).2]) h cnt
   rw [e2, h2, hv]; exact hR
theorem inn_clos4 {h : Heap} {f : Fn} {a b c d a' b' c' d' : PV} (ha : Inn0 h a a') (hb : Inn0 h b b') (hc : Inn0 h c c') (hd : Inn0 h d d') : Inn h (.func f [] [a, b, c, d]) (.func f [] [a', b', c', d']) :=
 .func rfl rfl (fun i p q hp _ => by simp at hp) fun i p q hp hq => by
   rcases i with _ | _ | _ | _ | i
   · simp at hp hq; subst hp; subst hq; exact ha
   · simp at hp hq; subst hp; subst hq; exact hb
   · simp at hp hq; subst hp; subst hq; exact hc
   · simp at hp hq; subst hp; subst hq; exact hd
   · simp at hp
theorem gen_ne {d a b : Nat} (h : a < b) : ((d, a) : Key) ≠ (d, b) := fun e => by
 have q : a = b := congrArg Prod.snd e
 omega
theorem grid_pure (g : Grid) : ∀ row ∈ [g.enc], ∀ p ∈ row, Pure p := fun row hr => pure_map (xs := [g]) Grid.pure row hr
theorem rule_pure (r : Rule) : ∀ row ∈ [r.enc], ∀ p ∈ row, Pure p := fun row hr => pure_map (xs := [r]) Rule.pure row hr
theorem Keep.w2 {h0 h2 : Heap} {c : Nat → Nat} {a b : Key} (hkn : KnownK h0 c) (hag : ∀ k : Key, k.2 < c k.1 → k ≠ a → k ≠ b → h2 k = h0 k) : Keep (fun k => k = a ∨ k = b) h0 h2 where
 same := fun k o hk hw => (hag k (hkn k o hk) (fun q => hw (.inl q)) (fun q => hw (.inr q))).trans hk
/-! ### What Held keeps -/
abbrev WH : Key → Prop := fun k => k = (10, 0) ∨ k = (11, 0)
def hdE (g : Grid) (r : Rule) (l : List Tie) (e : Int × Int) : Bool := l.any (mtB g r e.1 e.2)
def wA : Option (Int × Int) → Int
 | some e => e.1
 | none => 0
def wF : Option (Int × Int) → Int
 | some e => e.2
 | none => 0
structure HkH (g : Grid) (r : Rule) (l : List Tie) (p : List (Int × Int)) (h : Heap) : Prop where
 ties : h (5, 0) = some (.rows 1 [[.lit true 2 (l.map Tie.enc)]])
 held : h (10, 0) = some (.rows 1 [[.bool true]])
 first : h (11, 0) = some (.rows 3 [[.int 0, .int 0, .nil]])
 all : ∀ e ∈ p, hdE g r l e = true
structure DnH (g : Grid) (r : Rule) (l : List Tie) (p : List (Int × Int)) (h : Heap) : Prop where
 last : ∃ q i x, p = q ++ [(i, x)] ∧ (∀ e ∈ q, hdE g r l e = true) ∧ hdE g r l (i, x) = false ∧ h (10, 0) = some (.rows 1 [[.bool false]]) ∧ h (11, 0) = some (.rows 3 [[.int i, .int x, .nil]])
def hdW (g : Grid) (r : Rule) (l : List Tie) : Option (Int × Int) := (dmL g r g.along.length).find? fun e => !hdE g r l e
section
variable {g : Grid} {r : Rule} {l : List Tie} {h0 h2 : Heap}
theorem HkH.stays : Stays (HkH g r l) := fun p h h' he hk => ⟨he _ _ hk.ties, he _ _ hk.held, he _ _ hk.first, hk.all⟩
theorem held_fin (h : DmR WH (HkH g r l) (DnH g r l) g r h0 h2) : h2 (10, 0) = some (.rows 1 [[.bool (hdW g r l).isNone]]) ∧ h2 (11, 0) = some (.rows 3 [[.int (wA (hdW g r l)), .int (wF (hdW g r l)), .nil]]) := by
 rcases h.2 with q | ⟨p, q, hp, ⟨q2, i, x, rfl, h3, h4, h5, h6⟩⟩
 · have e : hdW g r l = none := by
     rw [hdW, List.find?_eq_none]; intro e he; rw [q.all e he]; decide
   rw [e]; exact ⟨q.held, q.first⟩
 · have e : hdW g r l = some (i, x) := by
     rw [hdW, hp, List.append_assoc, List.find?_append]
     have : q2.find? (fun e => !hdE g r l e) = none := by
       rw [List.find?_eq_none]; intro e he; rw [h3 e he]; decide
     rw [this, Option.none_or]
     show List.find? _ ((i, x) :: q) = _
     rw [List.find?_cons_of_pos (by rw [h4]; rfl)]
   rw [e]; exact ⟨h5, h6⟩
def heB (g : Grid) (r : Rule) (l : List Tie) : Bool := decide (allE g r l = 0) && (hdW g r l).isNone
def heW (g : Grid) (r : Rule) (l : List Tie) : Option (Int × Int) := if allE g r l = 0 then hdW g r l else none
theorem heB_e (h : allE g r l ≠ 0) : heB g r l = false := by rw [heB, decide_eq_false h]; rfl
theorem heB_0 (h : allE g r l = 0) : heB g r l = (hdW g r l).isNone := by rw [heB, decide_eq_true h]; rfl
theorem heW_e (h : allE g r l ≠ 0) : heW g r l = none := if_neg h
theorem heW_0 (h : allE g r l = 0) : heW g r l = hdW g r l := if_pos h
theorem allE_inv (h : allE g r l = 0) : gridE g = 0 ∧ ruleE r = 0 ∧ tiesE g l = 0 := by
 rcases allE_c g r l with ⟨q, e⟩ | ⟨_, q, e⟩ | ⟨q1, q2, e⟩
 · exact absurd (e.symm.trans h) q
 · exact absurd (e.symm.trans h) q
 · exact ⟨q1, q2, e.symm.trans h⟩
end
theorem pure_d (a b : Int) : ∀ p ∈ [PV.int a, .int b, .nil], Pure p := fun p hp => by
 simp only [List.mem_cons, List.not_mem_nil, or_false] at hp
 rcases hp with rfl | rfl | rfl <;> constructor
theorem clean_d (a b : Int) : ∀ p ∈ [PV.int a, .int b, .nil], Go.Pv.Clean p := fun p hp => by
 simp only [List.mem_cons, List.not_mem_nil, or_false] at hp
 rcases hp with rfl | rfl | rfl <;> constructor
theorem out_d {h : Heap} {a b a' b' : Int} (h1 : a = a') (h2 : b = b') : Out h (.agg [.int a, .int b, .nil]) (.agg [.int a', .int b', .nil]) := by
 subst h1; subst h2; exact out_agg rfl (clean_d _ _)

theorem fr119 : (inFrame Tryz.f119.ntmps (Tryz.f119.body.getD .skip) && Tryz.f119.results.toList.all (resScope Tryz.f119.ntmps)) = true := by kernel_rfl
theorem IndexT (g : Grid) (r : Rule) (i x : Int) (l : List Tie) (hl : l.length ≤ 100000) (hgz : gridE g = 0) (hrz : ruleE r = 0) (htz : tiesE g l = 0) (hi : 0 ≤ i ∧ i < 1000) (hx : 0 ≤ x ∧ x ≤ 1000000) : PCalls Tryz.prog 119 [.lit true 2 (l.map Tie.enc), .func (.func 118) [] [.lptr true 3 [g.enc] 0 0, .lptr true 1 [[.int x]] 0 0, .lptr true 5 [r.enc] 0 0, .lptr true 1 [[.int i]] 0 0]] (.int (ixA (mtB g r i x) l)) := by
 refine PCalls.of_code Tryz.func119 rfl rfl (by kernel_rfl) mixed fr119 (by show _ ≤ 19; simp) (.sc _) ?_
 refine pwp_seq_plain rfl fun K1 hK1 => ?_
 refine p_aS rfl ?_
 refine p_end (hK1 _ ?_); clear hK1 K1
 refine pwp_seq_seq ?_
 refine pwp_seq_plain rfl fun K2 hK2 => ?_
 refine p_e rfl (e_move (v := .lit _ _ _) rfl) ?_
 refine p_e rfl (e_len rfl (by kernel_rfl)) ?_
 refine p_mS rfl ?_
 refine p_end (hK2 _ ?_); clear hK2 K2
 refine pwp_seq_block fun K3 hK3 => ?_
 refine pwp_loopR (α := Nat) [0, 1, 7] (fun (k : Nat) => [(8, .int (k))]) (fun (k : Nat) (h : Heap) (_ : Nat → Nat) => ((k) ≤ l.length) ∧ (∀ i_, i_ < (k) → ∀ y, l[i_]? = some y → mtB g r i x y = false)) (fun (k : Nat) => l.length - (k)) (0) (by exact ⟨rfl, trivial⟩) (by exact ⟨by exact Nat.zero_le _, by exact nx_0⟩) fun k r4 h5 c6 hj7 => ?_
 obtain ⟨hk, hin⟩ := hj7
 try dsimp only at hk
 try dsimp only at hin
 show pwp _ _ (loopQ _ _ _) ⟨sets (mix _ _ _) [(8, .int k)], _, _⟩
 refine pwp_seq_plain rfl fun K8 hK8 => ?_
 refine p_e rfl (e_lt rfl rfl) ?_
 refine p_end (hK8 _ ?_); clear hK8 K8
 refine pwp_seq_cond rfl fun K9 hK9 => ⟨fun hb10 => ?_, fun hb10 => ?_⟩
 ·have hb10R := hb10; try simp only [zz] at hb10
  obtain ⟨t, ht0, hd, ht⟩ := get_lt (xs := l) (i := k) (by omega)
  have hti := ti_at htz ht0
  refine pwp_skip ?_
  refine seq_norm (hK9 _ ?_); clear hK9 K9
  refine pwp_seq_block fun K11 hK11 => ?_
  refine pwp_seq_plain rfl fun K12 hK12 => ?_
  refine p_mS rfl ?_
  refine p_aS rfl ?_
  refine p_end (hK12 _ ?_); clear hK12 K12
  refine pwp_seq_plain rfl fun K13 hK13 => ?_
  refine p_e rfl (e_move (v := .func _ _ _) rfl) ?_
  refine p_e rfl (e_move (v := .lit _ _ _) rfl) ?_
  refine p_mS rfl ?_
  refine p_e rfl (e_ixL rfl rfl) ?_
  refine p_e rfl (e_loadA (n := 2) rfl (by kernel_rfl) (by kernel_rfl) (by kernel_rfl) (by first | omega | (simp only [List.length_map]; omega)) (by decide) (by first | exact agg_map ht0 rfl)) ?_
  refine p_call rfl (.cons (inn_agg (Tie.pure _)) (.cons inn_lptr (.cons inn_lptr (.cons inn_lptr (.cons inn_lptr .nil))))) (meetsC g r i x t hgz hrz hti hi hx) ?_
  refine p_end (hK13 _ ?_); clear hK13 K13
  refine pwp_cond rfl (fun hb14 => ?_) (fun hb14 => ?_)
  ·have hb14R := hb14; try simp only [zz] at hb14
   refine pwp_seq_plain rfl fun K15 hK15 => ?_
   refine p_mS rfl ?_
   refine p_aS rfl ?_
   refine p_end (hK15 _ ?_); clear hK15 K15
   refine pwp_ret ?_
   refine ret_block ?_
   refine ret_seq ?_
   refine ret_loop ?_
   refine ret_block ?_
   refine ret_seq ?_
   refine end1 (v := .sc _) rfl ?_
   first
     | exact out_i (ixA_hit (K := mtB g r i x) ht0 hin (by assumption))
     | exact out_i (ixA_no (K := mtB g r i x) hin (by simp only [List.length_map] at *; omega))
  ·have hb14R := hb14; try simp only [zz] at hb14
   refine pwp_skip ?_
   refine block_norm ?_
   refine seq_norm (hK11 _ ?_); clear hK11 K11
   refine pwp_plain rfl fun K16 hK16 => ?_
   refine p_e rfl (e_adL rfl rfl) ?_
   refine p_mS rfl ?_
   refine p_end (hK16 _ ?_); clear hK16 K16
   exact loop_again (k + 1) (by show _ < _; omega) ⟨rfl, rfl, rfl, trivial⟩ ⟨rfl, trivial⟩ (by exact ⟨by show _ + 1 ≤ _; simp only [List.length_map] at *; omega, by exact nx_step (K := mtB g r i x) hin ht0 (by assumption)⟩)
 ·have hb10R := hb10; try simp only [zz] at hb10
  refine pwp_exit ?_
  refine exit_seq ?_
  clear hK9 K9
  refine exit_loop ?_
  refine exit_here ?_
  refine seq_norm (hK3 _ ?_); clear hK3 K3
  refine pwp_seq_plain rfl fun K17 hK17 => ?_
  refine p_aS rfl ?_
  refine p_end (hK17 _ ?_); clear hK17 K17
  refine pwp_ret ?_
  refine end1 (v := .sc _) rfl ?_
  first
    | exact out_i (ixA_hit (K := mtB g r i x) ht0 hin (by assumption))
    | exact out_i (ixA_no (K := mtB g r i x) hin (by simp only [List.length_map] at *; omega))

theorem fr82 : (inFrame Tryz.f82.ntmps (Tryz.f82.body.getD .skip) && Tryz.f82.results.toList.all (resScope Tryz.f82.ntmps)) = true := by kernel_rfl
theorem ContainsT (g : Grid) (r : Rule) (i x : Int) (l : List Tie) (hl : l.length ≤ 100000) (hgz : gridE g = 0) (hrz : ruleE r = 0) (htz : tiesE g l = 0) (hi : 0 ≤ i ∧ i < 1000) (hx : 0 ≤ x ∧ x ≤ 1000000) : PCalls Tryz.prog 82 [.lit true 2 (l.map Tie.enc), .func (.func 118) [] [.lptr true 3 [g.enc] 0 0, .lptr true 1 [[.int x]] 0 0, .lptr true 5 [r.enc] 0 0, .lptr true 1 [[.int i]] 0 0]] (.bool (l.any (mtB g r i x))) := by
 refine PCalls.of_code Tryz.func82 rfl rfl (by kernel_rfl) mixed fr82 (by show _ ≤ 9; simp) (.sc _) ?_
 refine pwp_seq_plain rfl fun K1 hK1 => ?_
 refine p_aS rfl ?_
 refine p_end (hK1 _ ?_); clear hK1 K1
 refine pwp_seq_plain rfl fun K2 hK2 => ?_
 refine p_e rfl (e_move (v := .lit _ _ _) rfl) ?_
 refine p_e rfl (e_move (v := .func _ _ _) rfl) ?_
 refine p_call rfl (.cons inn_lit (.cons (inn_clos4 (.lptr id) (.lptr id) (.lptr id) (.lptr id)) .nil)) (IndexT g r i x l hl hgz hrz htz hi hx) ?_
 refine p_e rfl (e_ge rfl rfl) ?_
 refine p_aS rfl ?_
 refine p_end (hK2 _ ?_); clear hK2 K2
 refine pwp_ret ?_
 refine end1 (v := .sc _) rfl ?_
 exact out_b ixA_any

theorem frH81 : (inFrame Tryz.f81.ntmps (Tryz.f81.body.getD .skip) && Tryz.f81.results.toList.all (resScope Tryz.f81.ntmps)) = true := by kernel_rfl
theorem yieldH (g : Grid) (r : Rule) (l : List Tie) (hl : l.length ≤ 100000) (hgz : gridE g = 0) (hrz : ruleE r = 0) (htz : tiesE g l = 0) (p : List (Int × Int)) (i x : Int) (h0 : Heap) (c0 : Nat → Nat) (a b c d : Nat) (hkn : KnownK h0 c0) (hP : HkH g r l p h0) (hi : 0 ≤ i ∧ i < 1000) (hx : 0 ≤ x ∧ x ≤ 1000000) (hG : h0 (3, a) = some (.rows 3 [g.enc])) (hX : h0 (9, b) = some (.rows 1 [[.int x]])) (hR : h0 (4, c) = some (.rows 5 [r.enc])) (hI : h0 (7, d) = some (.rows 1 [[.int i]])) : HCallsR Tryz.prog 81 [.agg [.int i, .int x, .nil], .func (.func 118) [] [.ptr (3, a) 3 0 0, .ptr (9, b) 1 0 0, .ptr (4, c) 5 0 0, .ptr (7, d) 1 0 0], .ptr (5, 0) 1 0 0, .ptr (10, 0) 1 0 0, .ptr (11, 0) 3 0 0] h0 c0 (fun v h2 _ => Keep WH h0 h2 ∧ ∃ bo, v = .bool bo ∧ (bo = true → HkH g r l (p ++ [(i, x)]) h2) ∧ (bo = false → DnH g r l (p ++ [(i, x)]) h2)) := by
 refine HCallsR.of_code Tryz.func81 rfl rfl (by kernel_rfl) mixed frH81 (by show _ ≤ 14; simp) ?_
 have hc5 : (0 : Nat) < c0 5 := hkn (5, 0) _ hP.ties
 refine pwp_seq_plain rfl fun K1 hK1 => ?_
 refine p_new rfl (e_box (n := 3) rfl rfl) ⟨rfl, by decide⟩ ?_
 refine p_aS rfl ?_
 refine p_end (hK1 _ ?_); clear hK1 K1
 refine pwp_seq_seq ?_
 refine pwp_seq_plain rfl fun K2 hK2 => ?_
 refine p_e rfl (e_lH (v := .lit _ _ _) rfl ((hset_ne (gen_ne hc5)).trans hP.ties) rfl) ?_
 refine p_e rfl (e_move (v := .func _ _ _) rfl) ?_
 refine p_call rfl (.cons inn_lit (.cons (inn_clos4 (inn_ptr ((hset_ne (key_ne rfl)).trans hG) (grid_pure g)) (inn_ptr ((hset_ne (key_ne rfl)).trans hX) (pure_one (.sc _))) (inn_ptr ((hset_ne (key_ne rfl)).trans hR) (rule_pure r)) (inn_ptr ((hset_ne (key_ne rfl)).trans hI) (pure_one (.sc _)))) .nil)) (ContainsT g r i x l hl hgz hrz htz hi hx) ?_
 refine p_e rfl (e_not rfl) ?_
 refine p_end (hK2 _ ?_); clear hK2 K2
 refine pwp_seq_cond rfl fun K3 hK3 => ⟨fun hb4 => ?_, fun hb4 => ?_⟩
 ·have hb4R := hb4; try simp only [zz] at hb4
  refine pwp_gops rfl fun K5 hK5 => ?_
  refine s_begin ?_
  refine s_step [5] (by simp) rfl rfl rfl rfl (e_loadHA (n := 3) rfl (hset_self _ _ _) (by kernel_rfl) (by kernel_rfl) (by kernel_rfl) (by exact Nat.zero_lt_one) (by decide) rfl) trivial ?_
  refine s_store [10] (by simp) rfl rfl (e_store1 rfl ((hset_ne (key_ne rfl)).trans hP.held) rfl rfl rfl (by decide) (by kernel_rfl) rfl (by kernel_rfl)) trivial ?_
  refine s_store [11] (by simp) rfl rfl (e_storeA rfl ((hset_ne (key_ne rfl)).trans ((hset_ne (key_ne rfl)).trans hP.first)) rfl rfl rfl (by kernel_rfl) rfl (by kernel_rfl)) trivial ?_
  refine s_end (ds := []) (by kernel_rfl) (by kernel_rfl) (hK5 _ ?_); clear hK5 K5
  refine seq_norm (hK3 _ ?_); clear hK3 K3
  refine pwp_seq_plain rfl fun K6 hK6 => ?_
  refine p_e rfl (e_lH (v := .sc _) rfl ((hset_ne (key_ne rfl)).trans (hset_self _ _ _)) rfl) ?_
  refine p_aS rfl ?_
  refine p_end (hK6 _ ?_); clear hK6 K6
  refine pwp_ret ?_
  refine end1 (v := .sc _) rfl ?_
  exact ⟨Keep.w2 hkn (fun k' hk' n1 n2 => (hset_ne (n2)).trans ((hset_ne (n1)).trans ((hset_ne (old_ne' hk' rfl)).trans (rfl)))), false, rfl, fun e => (by cases e), fun _ => ⟨⟨p, i, x, rfl, hP.all, (by first | assumption | simp_all), ((hset_ne (key_ne rfl)).trans (hset_self _ _ _)), (hset_self _ _ _)⟩⟩⟩
 ·have hb4R := hb4; try simp only [zz] at hb4
  refine pwp_skip ?_
  refine seq_norm (hK3 _ ?_); clear hK3 K3
  refine pwp_seq_plain rfl fun K7 hK7 => ?_
  refine p_e rfl (e_lH (v := .sc _) rfl ((hset_ne (key_ne rfl)).trans hP.held) rfl) ?_
  refine p_aS rfl ?_
  refine p_end (hK7 _ ?_); clear hK7 K7
  refine pwp_ret ?_
  refine end1 (v := .sc _) rfl ?_
  exact ⟨Keep.old hkn (fun k' hk' => (hset_ne (old_ne' hk' rfl)).trans (rfl)), true, rfl, fun _ => ⟨((hset_ne (gen_ne hc5)).trans hP.ties), ((hset_ne (key_ne rfl)).trans hP.held), ((hset_ne (key_ne rfl)).trans hP.first), fun e he => (by rcases List.mem_append.1 he with q | q; exact hP.all e q; rw [List.mem_singleton.1 q]; first | assumption | simp_all)⟩, fun e => by cases e⟩

theorem yieldHeld {g : Grid} {r : Rule} {l : List Tie} (hl : l.length ≤ 100000) (hgz : gridE g = 0) (hrz : ruleE r = 0) (htz : tiesE g l = 0) : YieldOK 81 [.ptr (5, 0) 1 0 0, .ptr (10, 0) 1 0 0, .ptr (11, 0) 3 0 0] WH (HkH g r l) (DnH g r l) g r :=
 fun p i x hp cn a b c d hkn hP hi hx _ hG hX hR hI => yieldH g r l hl hgz hrz htz p i x hp cn a b c d hkn hP (by have := (grd_shape hgz).2; omega) (hts_b hgz hx) hG hX hR hI
theorem fr25 : (inFrame Tryz.f25.ntmps (Tryz.f25.body.getD .skip) && Tryz.f25.results.toList.all (resScope Tryz.f25.ntmps)) = true := by kernel_rfl
theorem HeldC (g : Grid) (r : Rule) (l : List Tie) (ha : g.along.length ≤ 100) (hb : g.levels.length ≤ 100) (hl : l.length ≤ 100000) : PCalls Tryz.prog 25 [.agg g.enc, .agg r.enc, .lit true 2 (l.map Tie.enc)] (.tup [.bool (heB g r l), .agg [.int (wA (heW g r l)), .int (wF (heW g r l)), .nil], .int (allE g r l)]) := by
 refine PCalls.of_code Tryz.func25 rfl rfl (by kernel_rfl) mixed fr25 (by show _ ≤ 27; simp) (pure_3 (.sc _) (.agg _ (pure_d _ _)) (.sc _)) ?_
 refine pwp_seq_plain rfl fun K1 hK1 => ?_
 refine p_new rfl (e_box (n := 3) rfl rfl) ⟨rfl, by decide⟩ ?_
 refine p_new rfl (e_box (n := 5) rfl rfl) ⟨rfl, by decide⟩ ?_
 refine p_new rfl (e_box1 rfl rfl) ⟨rfl, by decide⟩ ?_
 refine p_aS rfl ?_
 refine p_new rfl (e_alloc (cs := [.int 0, .int 0, .nil]) (n := 3) (by kernel_rfl) rfl (by decide)) (ob_alloc (by decide)) ?_
 refine p_aS rfl ?_
 refine p_end (hK1 _ ?_); clear hK1 K1
 refine pwp_seq_seq ?_
 refine pwp_seq_plain rfl fun K2 hK2 => ?_
 refine p_e rfl (e_loadHA (cs := Grid.enc (g)) (n := 3) rfl ((hset_ne (key_ne rfl)).trans ((hset_ne (key_ne rfl)).trans ((hset_ne (key_ne rfl)).trans (hset_self _ _ _)))) (by kernel_rfl) (by kernel_rfl) (by kernel_rfl) (by exact Nat.zero_lt_one) (by decide) rfl) ?_
 refine p_e rfl (e_loadHA (cs := Rule.enc (r)) (n := 5) rfl ((hset_ne (key_ne rfl)).trans ((hset_ne (key_ne rfl)).trans (hset_self _ _ _))) (by kernel_rfl) (by kernel_rfl) (by kernel_rfl) (by exact Nat.zero_lt_one) (by decide) rfl) ?_
 refine p_e rfl (e_lH (v := .lit _ _ _) rfl ((hset_ne (key_ne rfl)).trans (hset_self _ _ _)) rfl) ?_
 refine p_call rfl (.cons (inn_agg (Grid.pure _)) (.cons (inn_agg (Rule.pure _)) (.cons inn_lit .nil))) (checkAllC g r l (by omega) (by omega) (by omega)) ?_
 refine p_aS rfl ?_
 refine p_end (hK2 _ ?_); clear hK2 K2
 refine pwp_seq_seq ?_
 refine pwp_seq_plain rfl fun K3 hK3 => ?_
 refine p_mS rfl ?_
 refine p_e rfl (e_ne rfl rfl) ?_
 refine p_end (hK3 _ ?_); clear hK3 K3
 refine pwp_seq_cond rfl fun K4 hK4 => ⟨fun hb5 => ?_, fun hb5 => ?_⟩
 ·have hb5R := hb5; try simp only [zz] at hb5
  refine pwp_seq_plain rfl fun K6 hK6 => ?_
  refine p_e rfl (e_build (zs := [.int 0, .int 0, .nil]) (pl := [(0, 1, false), (1, 1, false), (2, 1, false)]) (by kernel_rfl) (by kernel_rfl) (by kernel_rfl) rfl rfl (by exact trivial) rfl) ?_
  refine p_mS rfl ?_
  refine p_aS rfl ?_
  refine p_store rfl (e_storeA rfl (hset_self _ _ _) rfl rfl rfl (by kernel_rfl) rfl (by kernel_rfl)) trivial ?_
  refine p_aS rfl ?_
  refine p_end (hK6 _ ?_); clear hK6 K6
  refine pwp_ret ?_
  refine ret_seq ?_
  refine endTCT rfl rfl (hset_self _ _ _) (by kernel_rfl) (by kernel_rfl) (by kernel_rfl) rfl rfl ?_
  first
    | exact out_3 (out_b (heB_e (by assumption)).symm) (out_d (by rw [heW_e (by assumption)]; rfl) (by rw [heW_e (by assumption)]; rfl)) (out_i rfl)
    | exact out_3 (out_b (heB_0 haz).symm) (out_d (by rw [heW_0 haz]) (by rw [heW_0 haz])) (out_i haz.symm)
 ·have hb5R := hb5; try simp only [zz] at hb5
  refine pwp_skip ?_
  refine seq_norm (hK4 _ ?_); clear hK4 K4
  have haz : allE g r l = 0 := by omega
  obtain ⟨hgz, hrz, htz⟩ := allE_inv haz
  refine pwp_seq_plain rfl fun K7 hK7 => ?_
  refine p_e rfl (e_build (zs := [.int 0, .int 0, .nil]) (pl := [(0, 1, false), (1, 1, false), (2, 1, false)]) (by kernel_rfl) (by kernel_rfl) (by kernel_rfl) rfl rfl (by exact trivial) rfl) ?_
  refine p_new rfl (e_alloc (cs := [.bool false]) (n := 1) (by kernel_rfl) rfl (by decide)) (ob_alloc (by decide)) ?_
  refine p_new rfl (e_alloc (cs := [.int 0, .int 0, .nil]) (n := 3) (by kernel_rfl) rfl (by decide)) (ob_alloc (by decide)) ?_
  refine p_store rfl (e_store1 rfl ((hset_ne (key_ne rfl)).trans (hset_self _ _ _)) rfl rfl rfl (by decide) (by kernel_rfl) rfl (by kernel_rfl)) trivial ?_
  refine p_store rfl (e_storeA rfl ((hset_ne (key_ne rfl)).trans (hset_self _ _ _)) rfl rfl rfl (by kernel_rfl) rfl (by kernel_rfl)) trivial ?_
  refine p_end (hK7 _ ?_); clear hK7 K7
  refine pwp_seq_plainK rfl fun hkn K8 hK8 => ?_
  refine p_e rfl (e_loadHA (cs := Grid.enc (g)) (n := 3) rfl ((hset_ne (key_ne rfl)).trans ((hset_ne (key_ne rfl)).trans ((hset_ne (key_ne rfl)).trans ((hset_ne (key_ne rfl)).trans ((hset_ne (key_ne rfl)).trans ((hset_ne (key_ne rfl)).trans ((hset_ne (key_ne rfl)).trans (hset_self _ _ _)))))))) (by kernel_rfl) (by kernel_rfl) (by kernel_rfl) (by exact Nat.zero_lt_one) (by decide) rfl) ?_
  refine p_e rfl (e_loadHA (cs := Rule.enc (r)) (n := 5) rfl ((hset_ne (key_ne rfl)).trans ((hset_ne (key_ne rfl)).trans ((hset_ne (key_ne rfl)).trans ((hset_ne (key_ne rfl)).trans ((hset_ne (key_ne rfl)).trans ((hset_ne (key_ne rfl)).trans (hset_self _ _ _))))))) (by kernel_rfl) (by kernel_rfl) (by kernel_rfl) (by exact Nat.zero_lt_one) (by decide) rfl) ?_
  refine p_e rfl (e_mkf rfl) ?_
  refine p_hcall rfl (demandsH 81 _ WH (HkH g r l) (DnH g r l) g r _ _ hgz hrz HkH.stays (fun k q => by rcases q with rfl | rfl <;> decide) hkn ⟨((hset_ne (key_ne rfl)).trans ((hset_ne (key_ne rfl)).trans ((hset_ne (key_ne rfl)).trans ((hset_ne (key_ne rfl)).trans ((hset_ne (key_ne rfl)).trans (hset_self _ _ _)))))), ((hset_ne (key_ne rfl)).trans (hset_self _ _ _)), (hset_self _ _ _), fun e he => absurd he List.not_mem_nil⟩ (yieldHeld (by omega) hgz hrz htz)) fun v9 h10 c11 hR12 => ?_
  obtain ⟨hkp, hcase⟩ := hR12
  have hfin := held_fin ⟨hkp, hcase⟩
  have ho7 := hkp.same _ _ ((hset_ne (key_ne rfl)).trans ((hset_ne (key_ne rfl)).trans ((hset_ne (key_ne rfl)).trans ((hset_ne (key_ne rfl)).trans (hset_self _ _ _))))) (by rintro (q | q) <;> cases q)
  refine p_end (hK8 _ ?_); clear hK8 K8
  refine pwp_seq_gops rfl fun K13 hK13 => ?_
  refine s_begin ?_
  refine s_step [10] (by simp) rfl rfl rfl rfl (e_lH (v := .sc _) rfl hfin.1 rfl) trivial ?_
  refine s_step [11] (by simp) rfl rfl rfl rfl (e_loadHA (n := 3) rfl hfin.2 (by kernel_rfl) (by kernel_rfl) (by kernel_rfl) (by exact Nat.zero_lt_one) (by decide) rfl) trivial ?_
  refine s_e rfl (e_assign (v := .sc _) rfl) ?_
  refine s_store [7] (by simp) rfl rfl (e_storeA rfl ho7 rfl rfl rfl (by kernel_rfl) rfl (by kernel_rfl)) trivial ?_
  refine s_e rfl (e_assign (v := .sc _) rfl) ?_
  refine s_end (ds := []) (by kernel_rfl) (by kernel_rfl) (hK13 _ ?_); clear hK13 K13
  refine pwp_ret ?_
  refine endTCT rfl rfl (hset_self _ _ _) (by kernel_rfl) (by kernel_rfl) (by kernel_rfl) rfl rfl ?_
  first
    | exact out_3 (out_b (heB_e (by assumption)).symm) (out_d (by rw [heW_e (by assumption)]; rfl) (by rw [heW_e (by assumption)]; rfl)) (out_i rfl)
    | exact out_3 (out_b (heB_0 haz).symm) (out_d (by rw [heW_0 haz]) (by rw [heW_0 haz])) (out_i haz.symm)

end Go.Proofs.YtindehoegfiiaaaGreatDoor
