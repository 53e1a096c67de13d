import Derived.Test.YtigdmkhdmbbfiaaDoorStoB
import Derived.Test.YtigdmkhdmbbfiaaDoorAwake
/- Movements in a stock. No conditions. -/
set_option linter.unusedSimpArgs false
set_option linter.unusedVariables false
set_option maxRecDepth 100000
set_option maxHeartbeats 8000000
namespace Go.Proofs.YtigdmkhdmbbfiaaDoor
open Go Go.Pv

/-! ### A movement in the store -/
theorem sumS_app : ∀ (l l' : List Stock) (m : Sto), sumS m (l ++ l') = sumS (sumS m l) l'
  | [], _, _ => rfl
  | x :: l, l', m => by simp only [List.cons_append, sumS]; exact sumS_app l l' _
theorem cntS_app (k : Kx) : ∀ (l l' : List Stock), cntS k (l ++ l') = cntS k l + cntS k l'
  | [], l' => by simp [cntS]
  | x :: l, l' => by simp only [List.cons_append, cntS]; rw [cntS_app k l l']; omega
theorem getS_sum0 (k : Kx) (l : List Stock) : getS k (sumS [] l) = cntS k l := by
  rw [getS_sum]; simp [getS, aGet]
def extF (m : Movement) : List Stock := if m.fro ≠ -1 then [⟨m.part, m.fro, m.before, 0 - m.count⟩] else []
def extT (m : Movement) : List Stock := if m.til ≠ -1 then [⟨m.part, m.til, m.after, m.count⟩] else []
/-- Are there too few parts? -/
def lack (xs : List Stock) (m : Movement) : Prop := m.fro ≠ -1 ∧ cntS ⟨m.part, m.fro, m.before⟩ xs < m.count
instance (xs : List Stock) (m : Movement) : Decidable (lack xs m) := inferInstanceAs (Decidable (_ ∧ _))
def mvX (s : Sto) (m : Movement) : Int × Sto :=
  if m.fro ≠ -1 ∧ (aGet (⟨m.part, m.fro, m.before⟩ : Shelf) s).getD 0 < m.count then (22, s) else (0, sumS s (extF m ++ extT m))
theorem mx_22 {s : Sto} {m : Movement} (h : ¬ m.fro = -1) (h2 : (aGet (⟨m.part, m.fro, m.before⟩ : Shelf) s).getD 0 < m.count) : mvX s m = (22, s) := if_pos ⟨h, h2⟩
theorem mx_ft {s : Sto} {m : Movement} (h : ¬ m.fro = -1) (h2 : ¬ (aGet (⟨m.part, m.fro, m.before⟩ : Shelf) s).getD 0 < m.count) (h3 : ¬ m.til = -1) : mvX s m = (0, aSet (⟨m.part, m.til, m.after⟩ : Shelf) ((aGet (⟨m.part, m.til, m.after⟩ : Shelf) (aSet (⟨m.part, m.fro, m.before⟩ : Shelf) ((aGet (⟨m.part, m.fro, m.before⟩ : Shelf) s).getD 0 - m.count) s)).getD 0 + m.count) (aSet (⟨m.part, m.fro, m.before⟩ : Shelf) ((aGet (⟨m.part, m.fro, m.before⟩ : Shelf) s).getD 0 - m.count) s)) := by
  rw [mvX, if_neg (fun h4 => h2 h4.2), extF, if_pos h, extT, if_pos h3]
  simp only [List.cons_append, List.nil_append, sumS, getS, keyS]
  rw [show (aGet (⟨m.part, m.fro, m.before⟩ : Shelf) s).getD 0 + (0 - m.count) = (aGet (⟨m.part, m.fro, m.before⟩ : Shelf) s).getD 0 - m.count by omega]
theorem mx_f {s : Sto} {m : Movement} (h : ¬ m.fro = -1) (h2 : ¬ (aGet (⟨m.part, m.fro, m.before⟩ : Shelf) s).getD 0 < m.count) (h3 : m.til = -1) : mvX s m = (0, aSet (⟨m.part, m.fro, m.before⟩ : Shelf) ((aGet (⟨m.part, m.fro, m.before⟩ : Shelf) s).getD 0 - m.count) s) := by
  rw [mvX, if_neg (fun h4 => h2 h4.2), extF, if_pos h, extT, if_neg (by simpa using h3)]
  simp only [List.cons_append, List.nil_append, sumS, getS, keyS]
  rw [show (aGet (⟨m.part, m.fro, m.before⟩ : Shelf) s).getD 0 + (0 - m.count) = (aGet (⟨m.part, m.fro, m.before⟩ : Shelf) s).getD 0 - m.count by omega]
theorem mx_t {s : Sto} {m : Movement} (h : m.fro = -1) (h3 : ¬ m.til = -1) : mvX s m = (0, aSet (⟨m.part, m.til, m.after⟩ : Shelf) ((aGet (⟨m.part, m.til, m.after⟩ : Shelf) s).getD 0 + m.count) s) := by
  rw [mvX, if_neg (fun h4 => h4.1 h), extF, if_neg (by simpa using h), extT, if_pos h3]
  simp only [List.nil_append, sumS, getS, keyS]
theorem mx_0 {s : Sto} {m : Movement} (h : m.fro = -1) (h3 : m.til = -1) : mvX s m = (0, s) := by
  rw [mvX, if_neg (fun h4 => h4.1 h), extF, if_neg (by simpa using h), extT, if_neg (by simpa using h3)]
  rfl
def MR (s : Sto) (m : Movement) (q : Nat) (v : PV) (h : Heap) : Prop := v = .int (mvX s m).1 ∧ MapAt h (6, q) (entsOf kx PV.int (mvX s m).2)
theorem mr_of {s s' : Sto} {m : Movement} {q : Nat} {h : Heap} {z : Int} (he : mvX s m = (z, s')) (hm : MapAt h (6, q) (entsOf kx PV.int s')) : MR s m q (.int z) h := ⟨by rw [he], by rw [he]; exact hm⟩
theorem mvX_sum (xs : List Stock) (m : Movement) : mvX (sumS [] xs) m = if lack xs m then (22, sumS [] xs) else (0, sumS [] (xs ++ (extF m ++ extT m))) := by
  have h1 : (aGet (⟨m.part, m.fro, m.before⟩ : Shelf) (sumS [] xs)).getD 0 = cntS ⟨m.part, m.fro, m.before⟩ xs := getS_sum0 _ _
  unfold mvX
  rw [h1, ← sumS_app]
  by_cases h : lack xs m
  · rw [if_pos h, if_pos (show _ ∧ _ from h)]
  · rw [if_neg h, if_neg (show ¬ (_ ∧ _) from h)]
theorem ext_size {m : Movement} {n : Nat} (h : m.part.size ≤ n) : ∀ x ∈ extF m ++ extT m, x.part.size ≤ n := fun x hx => by
  rcases List.mem_append.1 hx with hx | hx
  · unfold extF at hx
    split at hx
    · simp only [List.mem_singleton] at hx; subst hx; exact h
    · simp at hx
  · unfold extT at hx
    split at hx
    · simp only [List.mem_singleton] at hx; subst hx; exact h
    · simp at hx
theorem ext_len (m : Movement) : (extF m ++ extT m).length ≤ 2 := by
  rw [List.length_append]
  have h1 : (extF m).length ≤ 1 := by unfold extF; split <;> simp
  have h2 : (extT m).length ≤ 1 := by unfold extT; split <;> simp
  omega
theorem mvX_size {xs : List Stock} {m : Movement} (hs : ∀ x ∈ xs, x.part.size ≤ 30) (hm : m.part.size ≤ 30) : ∀ e ∈ (mvX (sumS [] xs) m).2, e.1.part.size ≤ 1000000 := by
  rw [mvX_sum]
  split
  · exact sumS_size hs
  · refine sumS_size fun x hx => ?_
    rcases List.mem_append.1 hx with hx | hx
    · exact hs x hx
    · exact ext_size hm x hx
theorem mvX_len {xs : List Stock} {m : Movement} (hl : xs.length ≤ 220) : (mvX (sumS [] xs) m).2.length ≤ 1000000 := by
  rw [mvX_sum]
  have h1 := ext_len m
  split
  · have := sumS_len xs []; simp only [List.length_nil] at this; show (sumS [] xs).length ≤ _; omega
  · have := sumS_len (xs ++ (extF m ++ extT m)) []; simp only [List.length_nil, List.length_append] at this h1; show (sumS [] (xs ++ (extF m ++ extT m))).length ≤ _; omega
/-- The stock behind a movement, or the error. -/
def moveR (xs : List Stock) (m : Movement) : Int × List Stock :=
  if ¬ stockE xs = 0 then (stockE xs, []) else if ¬ mvE m = 0 then (mvE m, []) else if lack xs m then (22, []) else listS (sumS [] (xs ++ (extF m ++ extT m)))
theorem mo_1 {xs : List Stock} {m : Movement} (h : ¬ stockE xs = 0) : moveR xs m = (stockE xs, []) := if_pos h
theorem mo_2 {xs : List Stock} {m : Movement} (h : stockE xs = 0) (h2 : ¬ mvE m = 0) : moveR xs m = (mvE m, []) := by rw [moveR, if_neg (by simpa using h), if_pos h2]
theorem mo_3 {xs : List Stock} {m : Movement} (h : stockE xs = 0) (h2 : mvE m = 0) (h3 : ¬ (mvX (sumS [] xs) m).1 = 0) : moveR xs m = ((mvX (sumS [] xs) m).1, []) := by
  rw [moveR, if_neg (by simpa using h), if_neg (by simpa using h2)]
  rw [mvX_sum] at h3 ⊢
  split
  · rfl
  · rename_i h4; rw [if_neg h4] at h3; exact absurd rfl h3
theorem mo_4 {xs : List Stock} {m : Movement} (h : stockE xs = 0) (h2 : mvE m = 0) (h3 : (mvX (sumS [] xs) m).1 = 0) : moveR xs m = ((listS (mvX (sumS [] xs) m).2).1, (listS (mvX (sumS [] xs) m).2).2) := by
  rw [moveR, if_neg (by simpa using h), if_neg (by simpa using h2)]
  rw [mvX_sum] at h3 ⊢
  split
  · rename_i h4; rw [if_pos h4] at h3; cases h3
  · rfl
/-- The same, as the reference finds it. -/
def refMoveR (xs : List Stock) (m : Movement) : Int × List Stock :=
  if ¬ mvE m = 0 then (mvE m, []) else if lack xs m then (22, []) else settS (putF [] (xs ++ (extF m ++ extT m)))
theorem rm_1 {xs : List Stock} {m : Movement} (h2 : ¬ mvE m = 0) : refMoveR xs m = (mvE m, []) := if_pos h2
theorem rm_2 {xs : List Stock} {m : Movement} (h2 : mvE m = 0) (h3 : 0 ≤ m.fro) (h4 : cntA ⟨m.part, m.fro, m.before⟩ 0 xs < m.count) : refMoveR xs m = (22, []) := by
  rw [cntA_eq, Int.zero_add] at h4
  rw [refMoveR, if_neg (by simpa using h2), if_pos ⟨by omega, h4⟩]
theorem rm_3 {xs ys : List Stock} {m : Movement} (h2 : mvE m = 0) (h4 : ¬ (0 ≤ m.fro ∧ cntA ⟨m.part, m.fro, m.before⟩ 0 xs < m.count)) (hy : ys = xs ++ (extF m ++ extT m)) : refMoveR xs m = ((settS (putF [] ys)).1, (settS (putF [] ys)).2) := by
  rw [cntA_eq, Int.zero_add] at h4
  have hr := (mvE_ok h2).2.1; unfold rngQ at hr
  rw [refMoveR, if_neg (by simpa using h2), if_neg (fun h5 => h4 ⟨by have := h5.1; omega, h5.2⟩), hy]
theorem ex_ft {m : Movement} (h : 0 ≤ m.fro) (h2 : 0 ≤ m.til) : extF m ++ extT m = [⟨m.part, m.fro, m.before, (0 - m.count)⟩] ++ [⟨m.part, m.til, m.after, m.count⟩] := by rw [extF, if_pos (by omega), extT, if_pos (by omega)]
theorem ex_f {m : Movement} (h : 0 ≤ m.fro) (h2 : m.til = -1) : extF m ++ extT m = [⟨m.part, m.fro, m.before, (0 - m.count)⟩] := by rw [extF, if_pos (by omega), extT, if_neg (by omega), List.append_nil]
theorem ex_t {m : Movement} (h : m.fro = -1) (h2 : 0 ≤ m.til) : extF m ++ extT m = [⟨m.part, m.til, m.after, m.count⟩] := by rw [extF, if_neg (by omega), extT, if_pos (by omega), List.nil_append]
theorem ex_0 {m : Movement} (h : m.fro = -1) (h2 : m.til = -1) : extF m ++ extT m = [] := by rw [extF, if_neg (by omega), extT, if_neg (by omega)]; rfl
theorem settS_listS2 {l : List Stock} (h : ∀ k, 0 ≤ cntS k l) : settS (putF [] l) = listS (sumS [] l) := by
  unfold settS listS
  rw [putF_eq, setG_lstG]
  intro k
  rw [getS_sum0]; exact h k
theorem ext_0 {xs : List Stock} {m : Movement} (h : ∀ x ∈ xs, 0 ≤ x.count) (hc : 1 ≤ m.count) (hl : ¬ lack xs m) (k : Kx) : 0 ≤ cntS k (xs ++ (extF m ++ extT m)) := by
  have h1 := cntS_0 (k := k) h
  rw [cntS_app, cntS_app]
  have h2 : 0 ≤ cntS k (extT m) := cntS_0 fun x hx => by
    unfold extT at hx
    split at hx
    · simp only [List.mem_singleton] at hx; subst hx; show 0 ≤ m.count; omega
    · simp at hx
  unfold extF
  split
  · rename_i h3
    have h4 : ¬ cntS ⟨m.part, m.fro, m.before⟩ xs < m.count := fun h5 => hl ⟨h3, h5⟩
    by_cases h5 : (⟨m.part, m.fro, m.before⟩ : Kx) = k
    · have h6 : cntS k [(⟨m.part, m.fro, m.before, 0 - m.count⟩ : Stock)] = 0 - m.count := by
        rw [cntS, if_pos (show keyS (⟨m.part, m.fro, m.before, 0 - m.count⟩ : Stock) = k from h5)]; simp [cntS]
      rw [h6]; rw [h5] at h4; omega
    · have h6 : cntS k [(⟨m.part, m.fro, m.before, 0 - m.count⟩ : Stock)] = 0 := by
        rw [cntS, if_neg (show ¬ keyS (⟨m.part, m.fro, m.before, 0 - m.count⟩ : Stock) = k from h5)]; simp [cntS]
      rw [h6]; omega
  · simp only [cntS]; omega
theorem move_ref {xs : List Stock} {m : Movement} (h : stockE xs = 0) : moveR xs m = refMoveR xs m := by
  rw [moveR, refMoveR, if_neg (by simpa using h)]
  split
  · rfl
  · rename_i h2
    split
    · rfl
    · rename_i h3
      have hr := (mvE_ok (by simpa using h2)).2.1; unfold rngQ at hr
      rw [settS_listS2 (ext_0 (fun x hx => ((stockE_ok h).2 x hx).2.2.1) (by omega) h3)]
/-! Bounds of the reference's sums -/
theorem putS_cts {x : Stock} {A B : Int} : ∀ {l : List Stock}, (∀ e ∈ l, -A ≤ e.count ∧ e.count ≤ A) → 0 ≤ A → (-B ≤ x.count ∧ x.count ≤ B) → 0 ≤ B → ∀ e ∈ putS x l, -(A + B) ≤ e.count ∧ e.count ≤ A + B
  | [], _, hA, hx, hB, e, he => by
    simp only [putS, List.mem_singleton] at he; subst he; omega
  | y :: l, h, hA, hx, hB, e, he => by
    have hy := h y List.mem_cons_self
    unfold putS at he
    cases h1 : befS y x with
    | true =>
      rw [h1, cond_true] at he
      rcases List.mem_cons.1 he with rfl | he
      · omega
      · exact putS_cts (fun e he => h e (List.mem_cons_of_mem _ he)) hA hx hB e he
    | false =>
      rw [h1, cond_false] at he
      cases h2 : befS x y with
      | true =>
        rw [h2, cond_true] at he
        rcases List.mem_cons.1 he with rfl | he
        · omega
        · have := h e he; omega
      | false =>
        rw [h2, cond_false] at he
        rcases List.mem_cons.1 he with rfl | he
        · show -(A + B) ≤ x.count + y.count ∧ x.count + y.count ≤ A + B; omega
        · have := h e (List.mem_cons_of_mem _ he); omega
theorem putF_ctsG : ∀ (l out : List Stock) (A : Int), 0 ≤ A → (∀ e ∈ out, -A ≤ e.count ∧ e.count ≤ A) → (∀ x ∈ l, -1000000 ≤ x.count ∧ x.count ≤ 1000000) → ∀ e ∈ putF out l, -(A + 1000000 * (l.length : Int)) ≤ e.count ∧ e.count ≤ A + 1000000 * (l.length : Int)
  | [], out, A, hA, h, _, e, he => by simp only [putF] at he; simpa using h e he
  | x :: l, out, A, hA, h, hl, e, he => by
    simp only [putF] at he
    have h1 := putF_ctsG l (putS x out) (A + 1000000) (by omega) (putS_cts h hA (hl x List.mem_cons_self) (by omega)) (fun y hy => hl y (List.mem_cons_of_mem _ hy)) e he
    simp only [List.length_cons, Int.natCast_add, Int.natCast_one]
    omega
theorem PutF (xs : List Stock) (x : Stock) (hl : xs.length ≤ 300) (hb : ∀ y ∈ xs, -1000000 ≤ y.count ∧ y.count ≤ 1000000) (hx : -1000000 ≤ x.count ∧ x.count ≤ 1000000) : PCalls Tryd.prog 37 [.lit true 4 ((putF [] xs).map Stock.enc), .agg x.enc] (.lit false 4 ((putF [] (xs ++ [x])).map Stock.enc)) := by
  rw [putF_snoc]
  refine Put (putF [] xs) x ?_ (by omega) fun e he => ?_
  · have := putF_len xs []; simp only [List.length_nil] at this; omega
  · have := putF_ctsG xs [] 0 (Int.le_refl _) (by simp) hb e he; omega
theorem bd_snoc {xs : List Stock} {x : Stock} (h : ∀ y ∈ xs, -1000000 ≤ y.count ∧ y.count ≤ 1000000) (hx : -1000000 ≤ x.count ∧ x.count ≤ 1000000) : ∀ y ∈ xs ++ [x], -1000000 ≤ y.count ∧ y.count ≤ 1000000 := fun y hy => by
  rcases List.mem_append.1 hy with hy | hy
  · exact h y hy
  · simp only [List.mem_singleton] at hy; subst hy; exact hx

theorem frH35 : (inFrame Tryd.f35.ntmps (Tryd.f35.body.getD .skip) && Tryd.f35.results.toList.all (resScope Tryd.f35.ntmps)) = true := by kernel_rfl
theorem storeMove (s : Sto) (m : Movement) (q : Nat) (h0 : Heap) (c0 : Nat → Nat) (hm0 : MapAt h0 (6, q) (entsOf kx PV.int s)) (hbd : ∀ k, 0 ≤ getS k s ∧ getS k s ≤ 1000000000) (hmc : 1 ≤ m.count ∧ m.count ≤ 1000000) : HCallsR Tryd.prog 35 [.map (6, q), .agg m.enc] h0 c0 (fun v h _ => MR s m q v h) := by
  refine HCallsR.of_code Tryd.func35 rfl rfl (by kernel_rfl) mixed frH35 (by show _ ≤ 47; simp) ?_
  have hb1 : 0 ≤ ((aGet (⟨m.part, m.fro, m.before⟩ : Shelf) s).getD 0) ∧ ((aGet (⟨m.part, m.fro, m.before⟩ : Shelf) s).getD 0) ≤ 1000000000 := hbd _
  have hb2 : 0 ≤ ((aGet (⟨m.part, m.til, m.after⟩ : Shelf) s).getD 0) ∧ ((aGet (⟨m.part, m.til, m.after⟩ : Shelf) s).getD 0) ≤ 1000000000 := hbd _
  have hb3 : -1000000000 ≤ ((aGet (⟨m.part, m.til, m.after⟩ : Shelf) (aSet (⟨m.part, m.fro, m.before⟩ : Shelf) (((aGet (⟨m.part, m.fro, m.before⟩ : Shelf) s).getD 0) - m.count) s)).getD 0) ∧ ((aGet (⟨m.part, m.til, m.after⟩ : Shelf) (aSet (⟨m.part, m.fro, m.before⟩ : Shelf) (((aGet (⟨m.part, m.fro, m.before⟩ : Shelf) s).getD 0) - m.count) s)).getD 0) ≤ 1000000000 := by have := getS_aSet (⟨m.part, m.fro, m.before⟩ : Shelf) (⟨m.part, m.til, m.after⟩ : Shelf) (((aGet (⟨m.part, m.fro, m.before⟩ : Shelf) s).getD 0) - m.count) s; unfold getS at this; rw [this]; split <;> omega
  refine pwp_seq_plain rfl fun K1 hK1 => ?_
  refine p_new rfl (e_box (n := 6) rfl rfl) ⟨rfl, by decide⟩ ?_
  refine p_step rfl (e_assign (v := .sc _) rfl) trivial ?_
  refine p_end (hK1 _ ?_); clear hK1 K1
  refine pwp_seq_seq ?_
  refine pwp_seq_plain rfl fun K2 hK2 => ?_
  refine p_step rfl (e_faP (pl := [(0, 1, false), (1, 1, false), (2, 1, false), (3, 1, false), (4, 1, false), (5, 1, false)]) rfl (by kernel_rfl) (by kernel_rfl) (by decide) rfl) trivial ?_
  refine p_step rfl (e_loadH (v := .sc _) rfl (hset_self _ _ _) (by kernel_rfl) (by kernel_rfl) (by kernel_rfl) (by exact Nat.zero_lt_one) (by decide) rfl) trivial ?_
  refine p_step rfl (e_ne rfl rfl) trivial ?_
  refine p_end (hK2 _ ?_); clear hK2 K2
  refine pwp_seq_cond rfl fun K3 hK3 => ⟨fun hb4 => ?_, fun hb4 => ?_⟩
  ·have hb4R := hb4; try simp only [z1, z2, z3, z4, z5, z6, ne_eq, z7, z8, z9, z10, z11, z12] at hb4
   refine pwp_seq_plain rfl fun K5 hK5 => ?_
   refine p_step rfl (e_faP (pl := [(0, 1, false), (1, 1, false), (2, 1, false), (3, 1, false), (4, 1, false), (5, 1, false)]) rfl (by kernel_rfl) (by kernel_rfl) (by decide) rfl) trivial ?_
   refine p_step rfl (e_loadH (v := .sc _) rfl (hset_self _ _ _) (by kernel_rfl) (by kernel_rfl) (by kernel_rfl) (by exact Nat.zero_lt_one) (by decide) rfl) trivial ?_
   refine p_step rfl (e_faP (pl := [(0, 1, false), (1, 1, false), (2, 1, false), (3, 1, false), (4, 1, false), (5, 1, false)]) rfl (by kernel_rfl) (by kernel_rfl) (by decide) rfl) trivial ?_
   refine p_step rfl (e_loadH (v := .sc _) rfl (hset_self _ _ _) (by kernel_rfl) (by kernel_rfl) (by kernel_rfl) (by exact Nat.zero_lt_one) (by decide) rfl) trivial ?_
   refine p_step rfl (e_faP (pl := [(0, 1, false), (1, 1, false), (2, 1, false), (3, 1, false), (4, 1, false), (5, 1, false)]) rfl (by kernel_rfl) (by kernel_rfl) (by decide) rfl) trivial ?_
   refine p_step rfl (e_loadH (v := .sc _) rfl (hset_self _ _ _) (by kernel_rfl) (by kernel_rfl) (by kernel_rfl) (by exact Nat.zero_lt_one) (by decide) rfl) trivial ?_
   refine p_step rfl (e_build (cs := Shelf.enc (⟨m.part, m.fro, m.before⟩ : Shelf)) (zs := [.str ByteArray.empty, .int 0, .int 0]) (pl := [(0, 1, false), (1, 1, false), (2, 1, false)]) (by kernel_rfl) (by kernel_rfl) (by kernel_rfl) rfl rfl (by exact ⟨by decide, rfl, Nat.le_of_ble_eq_true rfl, rfl, ⟨by decide, rfl, Nat.le_of_ble_eq_true rfl, rfl, ⟨by decide, rfl, Nat.le_of_ble_eq_true rfl, rfl, trivial⟩⟩⟩) rfl) trivial ?_
   refine p_new rfl (e_alloc (cs := [.str ByteArray.empty, .int 0, .int 0]) (n := 3) (by kernel_rfl) rfl (by decide)) (ob_alloc (by decide)) ?_
   refine p_store rfl (e_storeA rfl (hset_self _ _ _) rfl rfl rfl (by kernel_rfl) rfl (by kernel_rfl)) trivial ?_
   refine p_end (hK5 _ ?_); clear hK5 K5
   refine pwp_seq_seq ?_
   refine pwp_seq_gops rfl fun K6 hK6 => ?_
   refine g_begin ?_
   refine g_step rfl rfl rfl rfl (e_move (v := .map _) rfl) trivial ?_
   refine g_step rfl rfl rfl rfl (e_loadHA (cs := Shelf.enc ((⟨m.part, m.fro, m.before⟩ : Shelf))) (n := 3) rfl (hset_self _ _ _) (by kernel_rfl) (by kernel_rfl) (by kernel_rfl) (by exact Nat.zero_lt_one) (by decide) rfl) trivial ?_
   refine g_step rfl rfl rfl rfl (e_look (kt := 93) (et := 3) (f := kx) (g := PV.int) (a := (⟨m.part, m.fro, m.before⟩ : Shelf)) (l := s) (z := 0) kx_eq kx_ok rfl rfl (MapAt.keep hm0 ((hset_ne (key_ne rfl)).trans ((hset_ne (key_ne rfl)).trans ((hset_ne (key_ne rfl)).trans (rfl))))) (by kernel_rfl) (by kernel_rfl) (by first | rfl | kernel_rfl)) trivial ?_
   refine g_step rfl rfl rfl rfl (e_faP (pl := [(0, 1, false), (1, 1, false), (2, 1, false), (3, 1, false), (4, 1, false), (5, 1, false)]) rfl (by kernel_rfl) (by kernel_rfl) (by decide) rfl) trivial ?_
   refine g_step rfl rfl rfl rfl (e_loadH (v := .sc _) rfl ((hset_ne (key_ne rfl)).trans ((hset_ne (key_ne rfl)).trans (hset_self _ _ _))) (by kernel_rfl) (by kernel_rfl) (by kernel_rfl) (by exact Nat.zero_lt_one) (by decide) rfl) trivial ?_
   refine g_step rfl rfl rfl rfl (e_lt rfl rfl) trivial ?_
   refine g_end (ds := []) (by kernel_rfl) rfl (hK6 _ ?_); clear hK6 K6
   refine pwp_seq_cond rfl fun K7 hK7 => ⟨fun hb8 => ?_, fun hb8 => ?_⟩
   ·have hb8R := hb8; try simp only [z1, z2, z3, z4, z5, z6, ne_eq, z7, z8, z9, z10, z11, z12] at hb8
    refine pwp_seq_plain rfl fun K9 hK9 => ?_
    refine p_step rfl (e_assign (v := .sc _) rfl) trivial ?_
    refine p_end (hK9 _ ?_); clear hK9 K9
    refine pwp_ret ?_
    refine ret_seq ?_
    refine ret_seq ?_
    refine end1 (v := .sc _) rfl ?_
    first
      | exact mr_of (mx_22 (by assumption) (by omega)) (MapAt.keep hm0 ((hset_ne (key_ne rfl)).trans ((hset_ne (key_ne rfl)).trans ((hset_ne (key_ne rfl)).trans (rfl)))))
      | exact mr_of (mx_ft (by assumption) (by omega) (by assumption)) (MapAt.keep hm0 ((hset_ne (key_ne rfl)).trans ((hset_ne (key_ne rfl)).trans ((hset_ne (key_ne rfl)).trans (rfl)))))
      | exact mr_of (mx_f (by assumption) (by omega) (by assumption)) (MapAt.keep hm0 ((hset_ne (key_ne rfl)).trans ((hset_ne (key_ne rfl)).trans ((hset_ne (key_ne rfl)).trans (rfl)))))
      | exact mr_of (mx_t (by assumption) (by assumption)) (MapAt.keep hm0 ((hset_ne (key_ne rfl)).trans ((hset_ne (key_ne rfl)).trans ((hset_ne (key_ne rfl)).trans (rfl)))))
      | exact mr_of (mx_0 (by assumption) (by assumption)) (MapAt.keep hm0 ((hset_ne (key_ne rfl)).trans ((hset_ne (key_ne rfl)).trans ((hset_ne (key_ne rfl)).trans (rfl)))))
   ·have hb8R := hb8; try simp only [z1, z2, z3, z4, z5, z6, ne_eq, z7, z8, z9, z10, z11, z12] at hb8
    refine pwp_skip ?_
    refine seq_norm (hK7 _ ?_); clear hK7 K7
    refine pwp_gops rfl fun K10 hK10 => ?_
    refine s_begin ?_
    refine s_step [] (by simp) rfl rfl rfl rfl (e_move (v := .map _) rfl) trivial ?_
    refine s_step [5] (by simp) rfl rfl rfl rfl (e_loadHA (cs := Shelf.enc ((⟨m.part, m.fro, m.before⟩ : Shelf))) (n := 3) rfl (hset_self _ _ _) (by kernel_rfl) (by kernel_rfl) (by kernel_rfl) (by exact Nat.zero_lt_one) (by decide) rfl) trivial ?_
    refine s_step [6] (by simp) rfl rfl rfl rfl (e_look (kt := 93) (et := 3) (f := kx) (g := PV.int) (a := (⟨m.part, m.fro, m.before⟩ : Shelf)) (l := s) (z := 0) kx_eq kx_ok rfl rfl (MapAt.keep hm0 ((hset_ne (key_ne rfl)).trans ((hset_ne (key_ne rfl)).trans ((hset_ne (key_ne rfl)).trans (rfl))))) (by kernel_rfl) (by kernel_rfl) (by first | rfl | kernel_rfl)) trivial ?_
    refine s_step [] (by simp) rfl rfl rfl rfl (e_faP (pl := [(0, 1, false), (1, 1, false), (2, 1, false), (3, 1, false), (4, 1, false), (5, 1, false)]) rfl (by kernel_rfl) (by kernel_rfl) (by decide) rfl) trivial ?_
    refine s_step [3] (by simp) rfl rfl rfl rfl (e_loadH (v := .sc _) rfl ((hset_ne (key_ne rfl)).trans ((hset_ne (key_ne rfl)).trans (hset_self _ _ _))) (by kernel_rfl) (by kernel_rfl) (by kernel_rfl) (by exact Nat.zero_lt_one) (by decide) rfl) trivial ?_
    refine s_step [] (by simp) rfl rfl rfl rfl (e_sub rfl rfl (by omega)) trivial ?_
    refine s_mentry (kt := 93) (et := 3) (m := 6) (f := kx) (g := PV.int) (a := (⟨m.part, m.fro, m.before⟩ : Shelf)) (l := s) (z := 0) kx_eq kx_ok rfl rfl rfl rfl rfl (MapAt.keep hm0 ((hset_ne (key_ne rfl)).trans ((hset_ne (key_ne rfl)).trans ((hset_ne (key_ne rfl)).trans (rfl))))) (by kernel_rfl) (by kernel_rfl) (by first | rfl | kernel_rfl) (fun _ => rfl) fun h11 sp12 hst13 hfr14 => ?_
    have ho15 := (hfr14 (3, _) (key_ne rfl)).trans ((hset_ne (key_ne rfl)).trans ((hset_ne (key_ne rfl)).trans (hset_self _ _ _)))
    have ho16 := (hfr14 (5, _) (key_ne rfl)).trans (hset_self _ _ _)
    refine s_step [] (by simp) rfl rfl rfl rfl (e_ext (v := .sc _) rfl (by simp) rfl) trivial ?_
    refine s_estore (f := kx) (g := PV.int) (a := (⟨m.part, m.fro, m.before⟩ : Shelf)) (b := (((aGet (⟨m.part, m.fro, m.before⟩ : Shelf) s).getD 0) - m.count)) (u := ((aGet (⟨m.part, m.fro, m.before⟩ : Shelf) s).getD 0)) (l := s) rfl rfl rfl rfl hst13 rfl fun h17 hm18 hfr19 => ?_
    have ho20 := (hfr19 (3, _) (key_ne rfl)).trans ho15
    have ho21 := (hfr19 (5, _) (key_ne rfl)).trans ho16
    refine s_end (ds := []) (by kernel_rfl) (by kernel_rfl) (hK10 _ ?_); clear hK10 K10
    refine seq_norm (hK3 _ ?_); clear hK3 K3
    refine pwp_seq_seq ?_
    refine pwp_seq_plain rfl fun K22 hK22 => ?_
    refine p_step rfl (e_faP (pl := [(0, 1, false), (1, 1, false), (2, 1, false), (3, 1, false), (4, 1, false), (5, 1, false)]) rfl (by kernel_rfl) (by kernel_rfl) (by decide) rfl) trivial ?_
    refine p_step rfl (e_loadH (v := .sc _) rfl ho20 (by kernel_rfl) (by kernel_rfl) (by kernel_rfl) (by exact Nat.zero_lt_one) (by decide) rfl) trivial ?_
    refine p_step rfl (e_ne rfl rfl) trivial ?_
    refine p_end (hK22 _ ?_); clear hK22 K22
    refine pwp_seq_cond rfl fun K23 hK23 => ⟨fun hb24 => ?_, fun hb24 => ?_⟩
    ·have hb24R := hb24; try simp only [z1, z2, z3, z4, z5, z6, ne_eq, z7, z8, z9, z10, z11, z12] at hb24
     refine pwp_gops rfl fun K25 hK25 => ?_
     refine s_begin ?_
     refine s_step [] (by simp) rfl rfl rfl rfl (e_move (v := .map _) rfl) trivial ?_
     refine s_step [] (by simp) rfl rfl rfl rfl (e_faP (pl := [(0, 1, false), (1, 1, false), (2, 1, false), (3, 1, false), (4, 1, false), (5, 1, false)]) rfl (by kernel_rfl) (by kernel_rfl) (by decide) rfl) trivial ?_
     refine s_step [3] (by simp) rfl rfl rfl rfl (e_loadH (v := .sc _) rfl ho20 (by kernel_rfl) (by kernel_rfl) (by kernel_rfl) (by exact Nat.zero_lt_one) (by decide) rfl) trivial ?_
     refine s_step [] (by simp) rfl rfl rfl rfl (e_faP (pl := [(0, 1, false), (1, 1, false), (2, 1, false), (3, 1, false), (4, 1, false), (5, 1, false)]) rfl (by kernel_rfl) (by kernel_rfl) (by decide) rfl) trivial ?_
     refine s_step [3] (by simp) rfl rfl rfl rfl (e_loadH (v := .sc _) rfl ho20 (by kernel_rfl) (by kernel_rfl) (by kernel_rfl) (by exact Nat.zero_lt_one) (by decide) rfl) trivial ?_
     refine s_step [] (by simp) rfl rfl rfl rfl (e_faP (pl := [(0, 1, false), (1, 1, false), (2, 1, false), (3, 1, false), (4, 1, false), (5, 1, false)]) rfl (by kernel_rfl) (by kernel_rfl) (by decide) rfl) trivial ?_
     refine s_step [3] (by simp) rfl rfl rfl rfl (e_loadH (v := .sc _) rfl ho20 (by kernel_rfl) (by kernel_rfl) (by kernel_rfl) (by exact Nat.zero_lt_one) (by decide) rfl) trivial ?_
     refine s_step [] (by simp) rfl rfl rfl rfl (e_build (cs := Shelf.enc (⟨m.part, m.til, m.after⟩ : Shelf)) (zs := [.str ByteArray.empty, .int 0, .int 0]) (pl := [(0, 1, false), (1, 1, false), (2, 1, false)]) (by kernel_rfl) (by kernel_rfl) (by kernel_rfl) rfl rfl (by exact ⟨by decide, rfl, Nat.le_of_ble_eq_true rfl, rfl, ⟨by decide, rfl, Nat.le_of_ble_eq_true rfl, rfl, ⟨by decide, rfl, Nat.le_of_ble_eq_true rfl, rfl, trivial⟩⟩⟩) rfl) trivial ?_
     refine s_step [6] (by simp) rfl rfl rfl rfl (e_look (kt := 93) (et := 3) (f := kx) (g := PV.int) (a := (⟨m.part, m.til, m.after⟩ : Shelf)) (l := (aSet (⟨m.part, m.fro, m.before⟩ : Shelf) (((aGet (⟨m.part, m.fro, m.before⟩ : Shelf) s).getD 0) - m.count) s)) (z := 0) kx_eq kx_ok rfl rfl hm18 (by kernel_rfl) (by kernel_rfl) (by first | rfl | kernel_rfl)) trivial ?_
     refine s_step [] (by simp) rfl rfl rfl rfl (e_faP (pl := [(0, 1, false), (1, 1, false), (2, 1, false), (3, 1, false), (4, 1, false), (5, 1, false)]) rfl (by kernel_rfl) (by kernel_rfl) (by decide) rfl) trivial ?_
     refine s_step [3] (by simp) rfl rfl rfl rfl (e_loadH (v := .sc _) rfl ho20 (by kernel_rfl) (by kernel_rfl) (by kernel_rfl) (by exact Nat.zero_lt_one) (by decide) rfl) trivial ?_
     refine s_step [] (by simp) rfl rfl rfl rfl (e_add rfl rfl (by omega)) trivial ?_
     refine s_mentry (kt := 93) (et := 3) (m := 6) (f := kx) (g := PV.int) (a := (⟨m.part, m.til, m.after⟩ : Shelf)) (l := (aSet (⟨m.part, m.fro, m.before⟩ : Shelf) (((aGet (⟨m.part, m.fro, m.before⟩ : Shelf) s).getD 0) - m.count) s)) (z := 0) kx_eq kx_ok rfl rfl rfl rfl rfl hm18 (by kernel_rfl) (by kernel_rfl) (by first | rfl | kernel_rfl) (fun _ => rfl) fun h26 sp27 hst28 hfr29 => ?_
     have ho30 := (hfr29 (3, _) (key_ne rfl)).trans ho20
     have ho31 := (hfr29 (5, _) (key_ne rfl)).trans ho21
     refine s_step [] (by simp) rfl rfl rfl rfl (e_ext (v := .sc _) rfl (by simp) rfl) trivial ?_
     refine s_estore (f := kx) (g := PV.int) (a := (⟨m.part, m.til, m.after⟩ : Shelf)) (b := (((aGet (⟨m.part, m.til, m.after⟩ : Shelf) (aSet (⟨m.part, m.fro, m.before⟩ : Shelf) (((aGet (⟨m.part, m.fro, m.before⟩ : Shelf) s).getD 0) - m.count) s)).getD 0) + m.count)) (u := ((aGet (⟨m.part, m.til, m.after⟩ : Shelf) (aSet (⟨m.part, m.fro, m.before⟩ : Shelf) (((aGet (⟨m.part, m.fro, m.before⟩ : Shelf) s).getD 0) - m.count) s)).getD 0)) (l := (aSet (⟨m.part, m.fro, m.before⟩ : Shelf) (((aGet (⟨m.part, m.fro, m.before⟩ : Shelf) s).getD 0) - m.count) s)) rfl rfl rfl rfl hst28 rfl fun h32 hm33 hfr34 => ?_
     have ho35 := (hfr34 (3, _) (key_ne rfl)).trans ho30
     have ho36 := (hfr34 (5, _) (key_ne rfl)).trans ho31
     refine s_end (ds := []) (by kernel_rfl) (by kernel_rfl) (hK25 _ ?_); clear hK25 K25
     refine seq_norm (hK23 _ ?_); clear hK23 K23
     refine pwp_seq_plain rfl fun K37 hK37 => ?_
     refine p_step rfl (e_assign (v := .sc _) rfl) trivial ?_
     refine p_end (hK37 _ ?_); clear hK37 K37
     refine pwp_ret ?_
     refine end1 (v := .sc _) rfl ?_
     first
       | exact mr_of (mx_22 (by assumption) (by omega)) hm33
       | exact mr_of (mx_ft (by assumption) (by omega) (by assumption)) hm33
       | exact mr_of (mx_f (by assumption) (by omega) (by assumption)) hm33
       | exact mr_of (mx_t (by assumption) (by assumption)) hm33
       | exact mr_of (mx_0 (by assumption) (by assumption)) hm33
    ·have hb24R := hb24; try simp only [z1, z2, z3, z4, z5, z6, ne_eq, z7, z8, z9, z10, z11, z12] at hb24
     refine pwp_skip ?_
     refine seq_norm (hK23 _ ?_); clear hK23 K23
     refine pwp_seq_plain rfl fun K38 hK38 => ?_
     refine p_step rfl (e_assign (v := .sc _) rfl) trivial ?_
     refine p_end (hK38 _ ?_); clear hK38 K38
     refine pwp_ret ?_
     refine end1 (v := .sc _) rfl ?_
     first
       | exact mr_of (mx_22 (by assumption) (by omega)) hm18
       | exact mr_of (mx_ft (by assumption) (by omega) (by assumption)) hm18
       | exact mr_of (mx_f (by assumption) (by omega) (by assumption)) hm18
       | exact mr_of (mx_t (by assumption) (by assumption)) hm18
       | exact mr_of (mx_0 (by assumption) (by assumption)) hm18
  ·have hb4R := hb4; try simp only [z1, z2, z3, z4, z5, z6, ne_eq, z7, z8, z9, z10, z11, z12] at hb4
   refine pwp_skip ?_
   refine seq_norm (hK3 _ ?_); clear hK3 K3
   refine pwp_seq_seq ?_
   refine pwp_seq_plain rfl fun K39 hK39 => ?_
   refine p_step rfl (e_faP (pl := [(0, 1, false), (1, 1, false), (2, 1, false), (3, 1, false), (4, 1, false), (5, 1, false)]) rfl (by kernel_rfl) (by kernel_rfl) (by decide) rfl) trivial ?_
   refine p_step rfl (e_loadH (v := .sc _) rfl (hset_self _ _ _) (by kernel_rfl) (by kernel_rfl) (by kernel_rfl) (by exact Nat.zero_lt_one) (by decide) rfl) trivial ?_
   refine p_step rfl (e_ne rfl rfl) trivial ?_
   refine p_end (hK39 _ ?_); clear hK39 K39
   refine pwp_seq_cond rfl fun K40 hK40 => ⟨fun hb41 => ?_, fun hb41 => ?_⟩
   ·have hb41R := hb41; try simp only [z1, z2, z3, z4, z5, z6, ne_eq, z7, z8, z9, z10, z11, z12] at hb41
    refine pwp_gops rfl fun K42 hK42 => ?_
    refine s_begin ?_
    refine s_step [] (by simp) rfl rfl rfl rfl (e_move (v := .map _) rfl) trivial ?_
    refine s_step [] (by simp) rfl rfl rfl rfl (e_faP (pl := [(0, 1, false), (1, 1, false), (2, 1, false), (3, 1, false), (4, 1, false), (5, 1, false)]) rfl (by kernel_rfl) (by kernel_rfl) (by decide) rfl) trivial ?_
    refine s_step [3] (by simp) rfl rfl rfl rfl (e_loadH (v := .sc _) rfl (hset_self _ _ _) (by kernel_rfl) (by kernel_rfl) (by kernel_rfl) (by exact Nat.zero_lt_one) (by decide) rfl) trivial ?_
    refine s_step [] (by simp) rfl rfl rfl rfl (e_faP (pl := [(0, 1, false), (1, 1, false), (2, 1, false), (3, 1, false), (4, 1, false), (5, 1, false)]) rfl (by kernel_rfl) (by kernel_rfl) (by decide) rfl) trivial ?_
    refine s_step [3] (by simp) rfl rfl rfl rfl (e_loadH (v := .sc _) rfl (hset_self _ _ _) (by kernel_rfl) (by kernel_rfl) (by kernel_rfl) (by exact Nat.zero_lt_one) (by decide) rfl) trivial ?_
    refine s_step [] (by simp) rfl rfl rfl rfl (e_faP (pl := [(0, 1, false), (1, 1, false), (2, 1, false), (3, 1, false), (4, 1, false), (5, 1, false)]) rfl (by kernel_rfl) (by kernel_rfl) (by decide) rfl) trivial ?_
    refine s_step [3] (by simp) rfl rfl rfl rfl (e_loadH (v := .sc _) rfl (hset_self _ _ _) (by kernel_rfl) (by kernel_rfl) (by kernel_rfl) (by exact Nat.zero_lt_one) (by decide) rfl) trivial ?_
    refine s_step [] (by simp) rfl rfl rfl rfl (e_build (cs := Shelf.enc (⟨m.part, m.til, m.after⟩ : Shelf)) (zs := [.str ByteArray.empty, .int 0, .int 0]) (pl := [(0, 1, false), (1, 1, false), (2, 1, false)]) (by kernel_rfl) (by kernel_rfl) (by kernel_rfl) rfl rfl (by exact ⟨by decide, rfl, Nat.le_of_ble_eq_true rfl, rfl, ⟨by decide, rfl, Nat.le_of_ble_eq_true rfl, rfl, ⟨by decide, rfl, Nat.le_of_ble_eq_true rfl, rfl, trivial⟩⟩⟩) rfl) trivial ?_
    refine s_step [6] (by simp) rfl rfl rfl rfl (e_look (kt := 93) (et := 3) (f := kx) (g := PV.int) (a := (⟨m.part, m.til, m.after⟩ : Shelf)) (l := s) (z := 0) kx_eq kx_ok rfl rfl (MapAt.keep hm0 ((hset_ne (key_ne rfl)).trans (rfl))) (by kernel_rfl) (by kernel_rfl) (by first | rfl | kernel_rfl)) trivial ?_
    refine s_step [] (by simp) rfl rfl rfl rfl (e_faP (pl := [(0, 1, false), (1, 1, false), (2, 1, false), (3, 1, false), (4, 1, false), (5, 1, false)]) rfl (by kernel_rfl) (by kernel_rfl) (by decide) rfl) trivial ?_
    refine s_step [3] (by simp) rfl rfl rfl rfl (e_loadH (v := .sc _) rfl (hset_self _ _ _) (by kernel_rfl) (by kernel_rfl) (by kernel_rfl) (by exact Nat.zero_lt_one) (by decide) rfl) trivial ?_
    refine s_step [] (by simp) rfl rfl rfl rfl (e_add rfl rfl (by omega)) trivial ?_
    refine s_mentry (kt := 93) (et := 3) (m := 6) (f := kx) (g := PV.int) (a := (⟨m.part, m.til, m.after⟩ : Shelf)) (l := s) (z := 0) kx_eq kx_ok rfl rfl rfl rfl rfl (MapAt.keep hm0 ((hset_ne (key_ne rfl)).trans (rfl))) (by kernel_rfl) (by kernel_rfl) (by first | rfl | kernel_rfl) (fun _ => rfl) fun h43 sp44 hst45 hfr46 => ?_
    have ho47 := (hfr46 (3, _) (key_ne rfl)).trans (hset_self _ _ _)
    refine s_step [] (by simp) rfl rfl rfl rfl (e_ext (v := .sc _) rfl (by simp) rfl) trivial ?_
    refine s_estore (f := kx) (g := PV.int) (a := (⟨m.part, m.til, m.after⟩ : Shelf)) (b := (((aGet (⟨m.part, m.til, m.after⟩ : Shelf) s).getD 0) + m.count)) (u := ((aGet (⟨m.part, m.til, m.after⟩ : Shelf) s).getD 0)) (l := s) rfl rfl rfl rfl hst45 rfl fun h48 hm49 hfr50 => ?_
    have ho51 := (hfr50 (3, _) (key_ne rfl)).trans ho47
    refine s_end (ds := []) (by kernel_rfl) (by kernel_rfl) (hK42 _ ?_); clear hK42 K42
    refine seq_norm (hK40 _ ?_); clear hK40 K40
    refine pwp_seq_plain rfl fun K52 hK52 => ?_
    refine p_step rfl (e_assign (v := .sc _) rfl) trivial ?_
    refine p_end (hK52 _ ?_); clear hK52 K52
    refine pwp_ret ?_
    refine end1 (v := .sc _) rfl ?_
    first
      | exact mr_of (mx_22 (by assumption) (by omega)) hm49
      | exact mr_of (mx_ft (by assumption) (by omega) (by assumption)) hm49
      | exact mr_of (mx_f (by assumption) (by omega) (by assumption)) hm49
      | exact mr_of (mx_t (by assumption) (by assumption)) hm49
      | exact mr_of (mx_0 (by assumption) (by assumption)) hm49
   ·have hb41R := hb41; try simp only [z1, z2, z3, z4, z5, z6, ne_eq, z7, z8, z9, z10, z11, z12] at hb41
    refine pwp_skip ?_
    refine seq_norm (hK40 _ ?_); clear hK40 K40
    refine pwp_seq_plain rfl fun K53 hK53 => ?_
    refine p_step rfl (e_assign (v := .sc _) rfl) trivial ?_
    refine p_end (hK53 _ ?_); clear hK53 K53
    refine pwp_ret ?_
    refine end1 (v := .sc _) rfl ?_
    first
      | exact mr_of (mx_22 (by assumption) (by omega)) (MapAt.keep hm0 ((hset_ne (key_ne rfl)).trans (rfl)))
      | exact mr_of (mx_ft (by assumption) (by omega) (by assumption)) (MapAt.keep hm0 ((hset_ne (key_ne rfl)).trans (rfl)))
      | exact mr_of (mx_f (by assumption) (by omega) (by assumption)) (MapAt.keep hm0 ((hset_ne (key_ne rfl)).trans (rfl)))
      | exact mr_of (mx_t (by assumption) (by assumption)) (MapAt.keep hm0 ((hset_ne (key_ne rfl)).trans (rfl)))
      | exact mr_of (mx_0 (by assumption) (by assumption)) (MapAt.keep hm0 ((hset_ne (key_ne rfl)).trans (rfl)))

theorem mvE_cnt {m : Movement} (h : mvE m = 0) : rngQ m ∧ 1 ≤ m.count ∧ m.count ≤ 1000000 := by
  have hr := (mvE_ok h).2.1
  exact ⟨hr, by unfold rngQ at hr; omega⟩
theorem sum_bd {xs : List Stock} (h : xs.length ≤ 200 ∧ ∀ x ∈ xs, (0 ≤ x.place ∧ x.place ≤ 99) ∧ (0 ≤ x.state ∧ x.state ≤ 3) ∧ (0 ≤ x.count ∧ x.count ≤ 1000000)) (k : Kx) : 0 ≤ getS k (sumS [] xs) ∧ getS k (sumS [] xs) ≤ 1000000000 := by
  rw [getS_sum0]
  have h1 := cntS_0 (k := k) (l := xs) fun x hx => (h.2 x hx).2.2.1
  have h2 := cntS_le (k := k) (l := xs) fun x hx => (h.2 x hx).2.2
  omega

theorem fr14 : (inFrame Tryd.f14.ntmps (Tryd.f14.body.getD .skip) && Tryd.f14.results.toList.all (resScope Tryd.f14.ntmps)) = true := by kernel_rfl
theorem MoveS (xs : List Stock) (m : Movement) (hl : xs.length ≤ 220) (hs : ∀ x ∈ xs, x.part.size ≤ 30) (hsm : m.part.size ≤ 30) : PCalls Tryd.prog 14 [.lit true 4 (xs.map Stock.enc), .agg m.enc] (.tup [.lit false 4 ((moveR xs m).2.map Stock.enc), .int (moveR xs m).1]) := by
  refine PCalls.of_code Tryd.func14 rfl rfl (by kernel_rfl) mixed fr14 (by show _ ≤ 32; simp) (pure_2 (.lit _ _ _ fun row hr => pure_map Stock.pure row hr) (.sc _)) ?_
  refine pwp_seq_plain rfl fun K1 hK1 => ?_
  refine p_new rfl (e_box (n := 6) rfl rfl) ⟨rfl, by decide⟩ ?_
  refine p_step rfl (e_assign (v := .nil) rfl) trivial ?_
  refine p_step rfl (e_assign (v := .sc _) rfl) trivial ?_
  refine p_end (hK1 _ ?_); clear hK1 K1
  refine pwp_seq_seq ?_
  refine pwp_seq_plain rfl fun K2 hK2 => ?_
  refine p_step rfl (e_move (v := .lit _ _ _) rfl) trivial ?_
  refine p_call rfl (.cons inn_lit .nil) (CheckS _ (by omega) (by assumption)) ?_
  refine p_step rfl (e_assign (v := .sc _) rfl) trivial ?_
  refine p_end (hK2 _ ?_); clear hK2 K2
  refine pwp_seq_seq ?_
  refine pwp_seq_plain rfl fun K3 hK3 => ?_
  refine p_step rfl (e_move (v := .sc _) rfl) trivial ?_
  refine p_step rfl (e_ne rfl rfl) trivial ?_
  refine p_end (hK3 _ ?_); clear hK3 K3
  refine pwp_seq_cond rfl fun K4 hK4 => ⟨fun hb5 => ?_, fun hb5 => ?_⟩
  ·have hb5R := hb5; (try simp only [z1, z2, z3, z4, z5, z6, ne_eq, z7, z8, z9, z10, z11, z12] at hb5); (try (have hok := stockE_ok hb5; have hbs := sum_bd hok)); (try (have hmv := mvE_cnt hb5))
   refine pwp_seq_plain rfl fun K6 hK6 => ?_
   refine p_step rfl (e_move (v := .sc _) rfl) trivial ?_
   refine p_step rfl (e_assign (v := .nil) rfl) trivial ?_
   refine p_step rfl (e_assign (v := .sc _) rfl) trivial ?_
   refine p_end (hK6 _ ?_); clear hK6 K6
   refine pwp_ret ?_
   refine ret_seq ?_
   refine end2 (v := .nil) (w := .sc _) rfl rfl ?_
   first
     | exact pr_out0 (mo_1 (by assumption))
     | exact pr_out0 (mo_2 (by assumption) (by assumption))
     | exact pr_out0 (mo_3 (by assumption) (by assumption) (by assumption))
  ·have hb5R := hb5; (try simp only [z1, z2, z3, z4, z5, z6, ne_eq, z7, z8, z9, z10, z11, z12] at hb5); (try (have hok := stockE_ok hb5; have hbs := sum_bd hok)); (try (have hmv := mvE_cnt hb5))
   refine pwp_skip ?_
   refine seq_norm (hK4 _ ?_); clear hK4 K4
   refine pwp_seq_seq ?_
   refine pwp_seq_plain rfl fun K7 hK7 => ?_
   refine p_step rfl (e_loadHA (n := 6) rfl (hset_self _ _ _) (by kernel_rfl) (by kernel_rfl) (by kernel_rfl) (by exact Nat.zero_lt_one) (by decide) rfl) trivial ?_
   refine p_call rfl (.cons (inn_agg (Movement.pure _)) .nil) (CheckMovement _ (by assumption)) ?_
   refine p_step rfl (e_assign (v := .sc _) rfl) trivial ?_
   refine p_end (hK7 _ ?_); clear hK7 K7
   refine pwp_seq_seq ?_
   refine pwp_seq_plain rfl fun K8 hK8 => ?_
   refine p_step rfl (e_move (v := .sc _) rfl) trivial ?_
   refine p_step rfl (e_ne rfl rfl) trivial ?_
   refine p_end (hK8 _ ?_); clear hK8 K8
   refine pwp_seq_cond rfl fun K9 hK9 => ⟨fun hb10 => ?_, fun hb10 => ?_⟩
   ·have hb10R := hb10; (try simp only [z1, z2, z3, z4, z5, z6, ne_eq, z7, z8, z9, z10, z11, z12] at hb10); (try (have hok := stockE_ok hb10; have hbs := sum_bd hok)); (try (have hmv := mvE_cnt hb10))
    refine pwp_seq_plain rfl fun K11 hK11 => ?_
    refine p_step rfl (e_move (v := .sc _) rfl) trivial ?_
    refine p_step rfl (e_assign (v := .nil) rfl) trivial ?_
    refine p_step rfl (e_assign (v := .sc _) rfl) trivial ?_
    refine p_end (hK11 _ ?_); clear hK11 K11
    refine pwp_ret ?_
    refine ret_seq ?_
    refine end2 (v := .nil) (w := .sc _) rfl rfl ?_
    first
      | exact pr_out0 (mo_1 (by assumption))
      | exact pr_out0 (mo_2 (by assumption) (by assumption))
      | exact pr_out0 (mo_3 (by assumption) (by assumption) (by assumption))
   ·have hb10R := hb10; (try simp only [z1, z2, z3, z4, z5, z6, ne_eq, z7, z8, z9, z10, z11, z12] at hb10); (try (have hok := stockE_ok hb10; have hbs := sum_bd hok)); (try (have hmv := mvE_cnt hb10))
    refine pwp_skip ?_
    refine seq_norm (hK9 _ ?_); clear hK9 K9
    refine pwp_seq_plain rfl fun K12 hK12 => ?_
    refine p_step rfl (e_move (v := .lit _ _ _) rfl) trivial ?_
    refine p_hcall rfl (storeOf xs _ _ hok.1 (fun x hx => (hok.2 x hx).2.2)) fun v13 h14 c15 hR16 => ?_
    obtain ⟨rfl, hm17, hf18⟩ := hR16
    have hb19 := (hf18 3 0 (by intro e; cases e) (by intro e; cases e)).trans (hset_self _ _ _)
    refine p_step rfl (e_assign (v := .map _) rfl) trivial ?_
    refine p_end (hK12 _ ?_); clear hK12 K12
    refine pwp_seq_seq ?_
    refine pwp_seq_plain rfl fun K20 hK20 => ?_
    refine p_step rfl (e_move (v := .map _) rfl) trivial ?_
    refine p_step rfl (e_loadHA (n := 6) rfl hb19 (by kernel_rfl) (by kernel_rfl) (by kernel_rfl) (by exact Nat.zero_lt_one) (by decide) rfl) trivial ?_
    refine p_hcall rfl (storeMove (sumS [] xs) m _ _ _ hm17 hbs hmv.2) fun v21 h22 c23 hR24 => ?_
    obtain ⟨rfl, hm25⟩ := hR24
    refine p_step rfl (e_assign (v := .sc _) rfl) trivial ?_
    refine p_end (hK20 _ ?_); clear hK20 K20
    refine pwp_seq_seq ?_
    refine pwp_seq_plain rfl fun K26 hK26 => ?_
    refine p_step rfl (e_move (v := .sc _) rfl) trivial ?_
    refine p_step rfl (e_ne rfl rfl) trivial ?_
    refine p_end (hK26 _ ?_); clear hK26 K26
    refine pwp_seq_cond rfl fun K27 hK27 => ⟨fun hb28 => ?_, fun hb28 => ?_⟩
    ·have hb28R := hb28; (try simp only [z1, z2, z3, z4, z5, z6, ne_eq, z7, z8, z9, z10, z11, z12] at hb28); (try (have hok := stockE_ok hb28; have hbs := sum_bd hok)); (try (have hmv := mvE_cnt hb28))
     refine pwp_seq_plain rfl fun K29 hK29 => ?_
     refine p_step rfl (e_move (v := .sc _) rfl) trivial ?_
     refine p_step rfl (e_assign (v := .nil) rfl) trivial ?_
     refine p_step rfl (e_assign (v := .sc _) rfl) trivial ?_
     refine p_end (hK29 _ ?_); clear hK29 K29
     refine pwp_ret ?_
     refine ret_seq ?_
     refine end2 (v := .nil) (w := .sc _) rfl rfl ?_
     first
       | exact pr_out0 (mo_1 (by assumption))
       | exact pr_out0 (mo_2 (by assumption) (by assumption))
       | exact pr_out0 (mo_3 (by assumption) (by assumption) (by assumption))
    ·have hb28R := hb28; (try simp only [z1, z2, z3, z4, z5, z6, ne_eq, z7, z8, z9, z10, z11, z12] at hb28); (try (have hok := stockE_ok hb28; have hbs := sum_bd hok)); (try (have hmv := mvE_cnt hb28))
     refine pwp_skip ?_
     refine seq_norm (hK27 _ ?_); clear hK27 K27
     refine pwp_seq_plain rfl fun K30 hK30 => ?_
     refine p_step rfl (e_move (v := .map _) rfl) trivial ?_
     refine p_hcall rfl (listO (mvX (sumS [] xs) m).2 _ _ _ hm25 (mvX_size hs hsm) (mvX_len hl)) fun v31 h32 c33 hR34 => ?_
     obtain ⟨u35, rfl, hs36⟩ := hR34
     refine p_step rfl (e_ext (v := _) rfl (by simp) rfl) trivial ?_
     refine p_step rfl (e_ext (v := .sc _) rfl (by simp) rfl) trivial ?_
     refine p_step rfl (e_assign (v := _) rfl) trivial ?_
     refine p_step rfl (e_assign (v := .sc _) rfl) trivial ?_
     refine p_end (hK30 _ ?_); clear hK30 K30
     refine pwp_ret ?_
     refine end2 (v := _) (w := .sc _) rfl rfl ?_
     first
       | exact pr_out0 (mo_1 (by assumption))
       | exact pr_out0 (mo_2 (by assumption) (by assumption))
       | exact pr_out0 (mo_3 (by assumption) (by assumption) (by assumption))
       | exact pr_out (mo_4 (by assumption) (by assumption) (by assumption)) hs36

theorem rm_out {h : Heap} {xs ys : List Stock} {m : Movement} (hr : refMoveR xs m = ((settS (putF [] ys)).1, (settS (putF [] ys)).2)) : Out h (.tup [.lit false 4 ((settS (putF [] ys)).2.map Stock.enc), .int (settS (putF [] ys)).1]) (.tup [.lit false 4 ((refMoveR xs m).2.map Stock.enc), .int (refMoveR xs m).1]) := by
  rw [hr]
  exact out_2 (.clean (.lit _ _ (fun row hr p hp => by obtain ⟨a, _, rfl⟩ := List.mem_map.1 hr; exact (stock_clean a p hp).1))) (out_i rfl)

theorem fr16 : (inFrame Tryd.f16.ntmps (Tryd.f16.body.getD .skip) && Tryd.f16.results.toList.all (resScope Tryd.f16.ntmps)) = true := by kernel_rfl
theorem refMove (xs : List Stock) (m : Movement) (hl : xs.length ≤ 220) (hcb : ∀ y ∈ xs, -1000000 ≤ y.count ∧ y.count ≤ 1000000) (hsm : m.part.size ≤ 30) : PCalls Tryd.prog 16 [.lit true 4 (xs.map Stock.enc), .agg m.enc] (.tup [.lit false 4 ((refMoveR xs m).2.map Stock.enc), .int (refMoveR xs m).1]) := by
  refine PCalls.of_code Tryd.func16 rfl rfl (by kernel_rfl) mixed fr16 (by show _ ≤ 71; simp) (pure_2 (.lit _ _ _ fun row hr => pure_map Stock.pure row hr) (.sc _)) ?_
  refine pwp_seq_plain rfl fun K1 hK1 => ?_
  refine p_new rfl (e_box (n := 6) rfl rfl) ⟨rfl, by decide⟩ ?_
  refine p_step rfl (e_assign (v := .nil) rfl) trivial ?_
  refine p_step rfl (e_assign (v := .sc _) rfl) trivial ?_
  refine p_end (hK1 _ ?_); clear hK1 K1
  refine pwp_seq_seq ?_
  refine pwp_seq_plain rfl fun K2 hK2 => ?_
  refine p_step rfl (e_loadHA (cs := Movement.enc (m)) (n := 6) rfl (hset_self _ _ _) (by kernel_rfl) (by kernel_rfl) (by kernel_rfl) (by exact Nat.zero_lt_one) (by decide) rfl) trivial ?_
  refine p_call rfl (.cons (inn_agg (Movement.pure _)) .nil) (refCheckMovement _ (by assumption)) ?_
  refine p_step rfl (e_assign (v := .sc _) rfl) trivial ?_
  refine p_end (hK2 _ ?_); clear hK2 K2
  refine pwp_seq_seq ?_
  refine pwp_seq_plain rfl fun K3 hK3 => ?_
  refine p_step rfl (e_move (v := .sc _) rfl) trivial ?_
  refine p_step rfl (e_ne rfl rfl) trivial ?_
  refine p_end (hK3 _ ?_); clear hK3 K3
  refine pwp_seq_cond rfl fun K4 hK4 => ⟨fun hb5 => ?_, fun hb5 => ?_⟩
  ·have hb5R := hb5; (try simp only [z1, z2, z3, z4, z5, z6, ne_eq, z7, z8, z9, z10, z11, z12] at hb5); (try (have hmv := mvE_cnt hb5; have hrg := hmv.1; unfold rngQ at hrg))
   refine pwp_seq_plain rfl fun K6 hK6 => ?_
   refine p_step rfl (e_move (v := .sc _) rfl) trivial ?_
   refine p_step rfl (e_assign (v := .nil) rfl) trivial ?_
   refine p_step rfl (e_assign (v := .sc _) rfl) trivial ?_
   refine p_end (hK6 _ ?_); clear hK6 K6
   refine pwp_ret ?_
   refine ret_seq ?_
   refine end2 (v := .nil) (w := .sc _) rfl rfl ?_
   first
     | exact pr_out0 (rm_1 (by assumption))
     | exact pr_out0 (rm_2 (by assumption) (by omega) (by assumption))
     | exact rm_out (rm_3 (by assumption) (fun h9 => by have := h9.1; have := h9.2; omega) (by rw [ex_ft (by assumption) (by assumption), List.append_assoc]))
     | exact rm_out (rm_3 (by assumption) (fun h9 => by have := h9.1; have := h9.2; omega) (by rw [ex_f (by omega) (by omega)]))
     | exact rm_out (rm_3 (by assumption) (fun h9 => by have := h9.1; have := h9.2; omega) (by rw [ex_t (by omega) (by omega)]))
     | exact rm_out (rm_3 (by assumption) (fun h9 => by have := h9.1; have := h9.2; omega) (by rw [ex_0 (by omega) (by omega), List.append_nil]))
  ·have hb5R := hb5; (try simp only [z1, z2, z3, z4, z5, z6, ne_eq, z7, z8, z9, z10, z11, z12] at hb5); (try (have hmv := mvE_cnt hb5; have hrg := hmv.1; unfold rngQ at hrg))
   refine pwp_skip ?_
   refine seq_norm (hK4 _ ?_); clear hK4 K4
   refine pwp_seq_plain rfl fun K7 hK7 => ?_
   refine p_step rfl (e_assign (v := .nil) rfl) trivial ?_
   refine p_end (hK7 _ ?_); clear hK7 K7
   refine pwp_seq_seq ?_
   refine pwp_seq_plain rfl fun K8 hK8 => ?_
   refine p_step rfl (e_assign (v := .sc _) rfl) trivial ?_
   refine p_end (hK8 _ ?_); clear hK8 K8
   refine pwp_seq_block fun K9 hK9 => ?_
   refine pwp_loopR (α := Nat × PV) [0, 3] (fun (a10 : Nat × PV) => [(7, (a10.2)), (8, .int (a10.1))]) (fun (a10 : Nat × PV) (h : Heap) (_ : Nat → Nat) => ((a10.1) ≤ xs.length) ∧ (LitV (a10.2) 4 ((putF [] (xs.take (a10.1))).map Stock.enc)) ∧ (h (3, 0) = some (.rows 6 [Movement.enc m]))) (fun (a10 : Nat × PV) => xs.length - (a10.1)) (0, _) (by exact ⟨rfl, rfl, trivial⟩) (by exact ⟨by exact Nat.zero_le _, by exact LitV.nil, (hset_self _ _ _)⟩) fun a10 r11 h12 c13 hj14 => ?_
   obtain ⟨k, v⟩ := a10
   obtain ⟨hk, hlv, hihj14_0⟩ := hj14
   try dsimp only at hk
   try dsimp only at hlv
   try dsimp only at hihj14_0
   show pwp _ _ (loopQ _ _ _) ⟨sets (mix _ _ _) [(7, v), (8, .int k)], _, _⟩
   refine pwp_seq_seq ?_
   refine pwp_seq_plain rfl fun K15 hK15 => ?_
   refine p_step rfl (e_move (v := .sc _) rfl) trivial ?_
   refine p_step rfl (e_move (v := .lit _ _ _) rfl) trivial ?_
   refine p_step rfl (e_len rfl (by kernel_rfl)) trivial ?_
   refine p_step rfl (e_lt rfl rfl) trivial ?_
   refine p_end (hK15 _ ?_); clear hK15 K15
   refine pwp_seq_cond rfl fun K16 hK16 => ⟨fun hb17 => ?_, fun hb17 => ?_⟩
   ·have hb17R := hb17; (try simp only [z1, z2, z3, z4, z5, z6, ne_eq, z7, z8, z9, z10, z11, z12] at hb17); (try (have hmv := mvE_cnt hb17; have hrg := hmv.1; unfold rngQ at hrg))
    obtain ⟨x, hx, hd, ht⟩ := get_lt (xs := xs) (i := k) (by omega)
    have hln := putF_len (xs.take k) []; simp only [List.length_nil, List.length_take] at hln
    refine pwp_skip ?_
    refine seq_norm (hK16 _ ?_); clear hK16 K16
    refine pwp_seq_block fun K18 hK18 => ?_
    refine pwp_plain rfl fun K19 hK19 => ?_
    refine p_step rfl (e_move (v := _) rfl) trivial ?_
    refine p_step rfl (e_move (v := .lit _ _ _) rfl) trivial ?_
    refine p_step rfl (e_move (v := .sc _) rfl) trivial ?_
    refine p_step rfl (e_ixa rfl rfl (by kernel_rfl) (by kernel_rfl) (by simp only [List.length_map]; omega)) trivial ?_
    refine p_step rfl (e_loadA (n := 4) rfl (by kernel_rfl) (by kernel_rfl) (by kernel_rfl) (by simp only [List.length_map]; omega) (by decide) (by first | exact agg_map hx rfl)) trivial ?_
    refine p_call rfl (.cons (LitV.inn hlv) (.cons (inn_agg (Stock.pure _)) .nil)) (PutF (xs.take k) x (by simp only [List.length_take]; omega) (fun y hy => hcb y (List.mem_of_mem_take hy)) (hcb x (List.mem_of_getElem? hx))) ?_
    refine p_step rfl (e_assign (v := .lit _ _ _) rfl) trivial ?_
    refine p_end (hK19 _ ?_); clear hK19 K19
    refine block_norm ?_
    refine seq_norm (hK18 _ ?_); clear hK18 K18
    refine pwp_plain rfl fun K20 hK20 => ?_
    refine p_step rfl (e_move (v := .sc _) rfl) trivial ?_
    refine p_step rfl (e_add rfl rfl (by omega)) trivial ?_
    refine p_step rfl (e_assign (v := .sc _) rfl) trivial ?_
    refine p_end (hK20 _ ?_); clear hK20 K20
    exact loop_again ((k + 1, _)) (by show _ < _; simp only; omega) ⟨rfl, rfl, trivial⟩ ⟨rfl, rfl, trivial⟩ (by exact ⟨by show _ + 1 ≤ _; omega, by (rw [ht]; exact LitV.lit), hihj14_0⟩)
   ·have hb17R := hb17; (try simp only [z1, z2, z3, z4, z5, z6, ne_eq, z7, z8, z9, z10, z11, z12] at hb17); (try (have hmv := mvE_cnt hb17; have hrg := hmv.1; unfold rngQ at hrg))
    obtain rfl : k = xs.length := by omega
    rw [List.take_length] at hlv
    refine pwp_exit ?_
    refine exit_seq ?_
    clear hK16 K16
    refine exit_loop ?_
    refine exit_here ?_
    refine seq_norm (hK9 _ ?_); clear hK9 K9
    refine pwp_seq_seq ?_
    refine pwp_seq_plain rfl fun K21 hK21 => ?_
    refine p_step rfl (e_faP (pl := [(0, 1, false), (1, 1, false), (2, 1, false), (3, 1, false), (4, 1, false), (5, 1, false)]) rfl (by kernel_rfl) (by kernel_rfl) (by decide) rfl) trivial ?_
    refine p_step rfl (e_loadH (v := .sc _) rfl hihj14_0 (by kernel_rfl) (by kernel_rfl) (by kernel_rfl) (by exact Nat.zero_lt_one) (by decide) rfl) trivial ?_
    refine p_step rfl (e_ge rfl rfl) trivial ?_
    refine p_end (hK21 _ ?_); clear hK21 K21
    refine pwp_seq_cond rfl fun K22 hK22 => ⟨fun hb23 => ?_, fun hb23 => ?_⟩
    ·have hb23R := hb23; (try simp only [z1, z2, z3, z4, z5, z6, ne_eq, z7, z8, z9, z10, z11, z12] at hb23); (try (have hmv := mvE_cnt hb23; have hrg := hmv.1; unfold rngQ at hrg))
     refine pwp_seq_seq ?_
     refine pwp_seq_gops rfl fun K24 hK24 => ?_
     refine g_begin ?_
     refine g_step rfl rfl rfl rfl (e_move (v := .lit _ _ _) rfl) trivial ?_
     refine g_step rfl rfl rfl rfl (e_faP (pl := [(0, 1, false), (1, 1, false), (2, 1, false), (3, 1, false), (4, 1, false), (5, 1, false)]) rfl (by kernel_rfl) (by kernel_rfl) (by decide) rfl) trivial ?_
     refine g_step rfl rfl rfl rfl (e_loadH (v := .sc _) rfl hihj14_0 (by kernel_rfl) (by kernel_rfl) (by kernel_rfl) (by exact Nat.zero_lt_one) (by decide) rfl) trivial ?_
     refine g_step rfl rfl rfl rfl (e_faP (pl := [(0, 1, false), (1, 1, false), (2, 1, false), (3, 1, false), (4, 1, false), (5, 1, false)]) rfl (by kernel_rfl) (by kernel_rfl) (by decide) rfl) trivial ?_
     refine g_step rfl rfl rfl rfl (e_loadH (v := .sc _) rfl hihj14_0 (by kernel_rfl) (by kernel_rfl) (by kernel_rfl) (by exact Nat.zero_lt_one) (by decide) rfl) trivial ?_
     refine g_step rfl rfl rfl rfl (e_faP (pl := [(0, 1, false), (1, 1, false), (2, 1, false), (3, 1, false), (4, 1, false), (5, 1, false)]) rfl (by kernel_rfl) (by kernel_rfl) (by decide) rfl) trivial ?_
     refine g_step rfl rfl rfl rfl (e_loadH (v := .sc _) rfl hihj14_0 (by kernel_rfl) (by kernel_rfl) (by kernel_rfl) (by exact Nat.zero_lt_one) (by decide) rfl) trivial ?_
     refine g_step rfl rfl rfl rfl (e_buildA (cs := At.enc (⟨m.fro, m.before⟩ : At)) (zs := [.int 0, .int 0]) (pl := [(0, 1, false), (1, 1, false)]) (by kernel_rfl) (by kernel_rfl) (by kernel_rfl) rfl rfl (by exact ⟨by decide, rfl, Nat.le_of_ble_eq_true rfl, rfl, ⟨by decide, rfl, Nat.le_of_ble_eq_true rfl, rfl, trivial⟩⟩) rfl) trivial ?_
     refine g_call rfl rfl rfl rfl (.cons inn_lit (.cons inn_sc (.cons (inn_agg (At.pure _)) .nil))) (refCount _ _ _ (by omega) (fun x hx => by have := hcb x hx; omega)) ?_
     refine g_step rfl rfl rfl rfl (e_faP (pl := [(0, 1, false), (1, 1, false), (2, 1, false), (3, 1, false), (4, 1, false), (5, 1, false)]) rfl (by kernel_rfl) (by kernel_rfl) (by decide) rfl) trivial ?_
     refine g_step rfl rfl rfl rfl (e_loadH (v := .sc _) rfl hihj14_0 (by kernel_rfl) (by kernel_rfl) (by kernel_rfl) (by exact Nat.zero_lt_one) (by decide) rfl) trivial ?_
     refine g_step rfl rfl rfl rfl (e_lt rfl rfl) trivial ?_
     refine g_end (ds := []) (by kernel_rfl) rfl (hK24 _ ?_); clear hK24 K24
     refine pwp_seq_cond rfl fun K25 hK25 => ⟨fun hb26 => ?_, fun hb26 => ?_⟩
     ·have hb26R := hb26; (try simp only [z1, z2, z3, z4, z5, z6, ne_eq, z7, z8, z9, z10, z11, z12] at hb26); (try (have hmv := mvE_cnt hb26; have hrg := hmv.1; unfold rngQ at hrg))
      refine pwp_seq_plain rfl fun K27 hK27 => ?_
      refine p_step rfl (e_assign (v := .nil) rfl) trivial ?_
      refine p_step rfl (e_assign (v := .sc _) rfl) trivial ?_
      refine p_end (hK27 _ ?_); clear hK27 K27
      refine pwp_ret ?_
      refine ret_seq ?_
      refine ret_seq ?_
      refine end2 (v := .nil) (w := .sc _) rfl rfl ?_
      first
        | exact pr_out0 (rm_1 (by assumption))
        | exact pr_out0 (rm_2 (by assumption) (by omega) (by assumption))
        | exact rm_out (rm_3 (by assumption) (fun h9 => by have := h9.1; have := h9.2; omega) (by rw [ex_ft (by assumption) (by assumption), List.append_assoc]))
        | exact rm_out (rm_3 (by assumption) (fun h9 => by have := h9.1; have := h9.2; omega) (by rw [ex_f (by omega) (by omega)]))
        | exact rm_out (rm_3 (by assumption) (fun h9 => by have := h9.1; have := h9.2; omega) (by rw [ex_t (by omega) (by omega)]))
        | exact rm_out (rm_3 (by assumption) (fun h9 => by have := h9.1; have := h9.2; omega) (by rw [ex_0 (by omega) (by omega), List.append_nil]))
     ·have hb26R := hb26; (try simp only [z1, z2, z3, z4, z5, z6, ne_eq, z7, z8, z9, z10, z11, z12] at hb26); (try (have hmv := mvE_cnt hb26; have hrg := hmv.1; unfold rngQ at hrg))
      refine pwp_skip ?_
      refine seq_norm (hK25 _ ?_); clear hK25 K25
      refine pwp_plain rfl fun K28 hK28 => ?_
      refine p_step rfl (e_move (v := _) rfl) trivial ?_
      refine p_step rfl (e_faP (pl := [(0, 1, false), (1, 1, false), (2, 1, false), (3, 1, false), (4, 1, false), (5, 1, false)]) rfl (by kernel_rfl) (by kernel_rfl) (by decide) rfl) trivial ?_
      refine p_step rfl (e_loadH (v := .sc _) rfl hihj14_0 (by kernel_rfl) (by kernel_rfl) (by kernel_rfl) (by exact Nat.zero_lt_one) (by decide) rfl) trivial ?_
      refine p_step rfl (e_faP (pl := [(0, 1, false), (1, 1, false), (2, 1, false), (3, 1, false), (4, 1, false), (5, 1, false)]) rfl (by kernel_rfl) (by kernel_rfl) (by decide) rfl) trivial ?_
      refine p_step rfl (e_loadH (v := .sc _) rfl hihj14_0 (by kernel_rfl) (by kernel_rfl) (by kernel_rfl) (by exact Nat.zero_lt_one) (by decide) rfl) trivial ?_
      refine p_step rfl (e_faP (pl := [(0, 1, false), (1, 1, false), (2, 1, false), (3, 1, false), (4, 1, false), (5, 1, false)]) rfl (by kernel_rfl) (by kernel_rfl) (by decide) rfl) trivial ?_
      refine p_step rfl (e_loadH (v := .sc _) rfl hihj14_0 (by kernel_rfl) (by kernel_rfl) (by kernel_rfl) (by exact Nat.zero_lt_one) (by decide) rfl) trivial ?_
      refine p_step rfl (e_faP (pl := [(0, 1, false), (1, 1, false), (2, 1, false), (3, 1, false), (4, 1, false), (5, 1, false)]) rfl (by kernel_rfl) (by kernel_rfl) (by decide) rfl) trivial ?_
      refine p_step rfl (e_loadH (v := .sc _) rfl hihj14_0 (by kernel_rfl) (by kernel_rfl) (by kernel_rfl) (by exact Nat.zero_lt_one) (by decide) rfl) trivial ?_
      refine p_step rfl (e_neg rfl (by omega)) trivial ?_
      refine p_step rfl (e_build (cs := Stock.enc (⟨m.part, m.fro, m.before, (0 - m.count)⟩ : Stock)) (zs := [.str ByteArray.empty, .int 0, .int 0, .int 0]) (pl := [(0, 1, false), (1, 1, false), (2, 1, false), (3, 1, false)]) (by kernel_rfl) (by kernel_rfl) (by kernel_rfl) rfl rfl (by exact ⟨by decide, rfl, Nat.le_of_ble_eq_true rfl, rfl, ⟨by decide, rfl, Nat.le_of_ble_eq_true rfl, rfl, ⟨by decide, rfl, Nat.le_of_ble_eq_true rfl, rfl, ⟨by decide, rfl, Nat.le_of_ble_eq_true rfl, rfl, trivial⟩⟩⟩⟩) rfl) trivial ?_
      refine p_call rfl (.cons (LitV.inn hlv) (.cons (inn_agg (Stock.pure _)) .nil)) (PutF xs (⟨m.part, m.fro, m.before, (0 - m.count)⟩ : Stock) (by first | omega | (simp only [List.length_append, List.length_cons, List.length_nil]; omega)) (by first | exact hcb | exact bd_snoc hcb (by first | exact ⟨by show -1000000 ≤ (0 - m.count); omega, by show (0 - m.count) ≤ 1000000; omega⟩ | exact ⟨by show -1000000 ≤ m.count; omega, by show m.count ≤ 1000000; omega⟩)) (by first | exact ⟨by show -1000000 ≤ (0 - m.count); omega, by show (0 - m.count) ≤ 1000000; omega⟩ | exact ⟨by show -1000000 ≤ m.count; omega, by show m.count ≤ 1000000; omega⟩)) ?_
      refine p_step rfl (e_assign (v := .lit _ _ _) rfl) trivial ?_
      refine p_end (hK28 _ ?_); clear hK28 K28
      refine seq_norm (hK22 _ ?_); clear hK22 K22
      refine pwp_seq_seq ?_
      refine pwp_seq_plain rfl fun K29 hK29 => ?_
      refine p_step rfl (e_faP (pl := [(0, 1, false), (1, 1, false), (2, 1, false), (3, 1, false), (4, 1, false), (5, 1, false)]) rfl (by kernel_rfl) (by kernel_rfl) (by decide) rfl) trivial ?_
      refine p_step rfl (e_loadH (v := .sc _) rfl hihj14_0 (by kernel_rfl) (by kernel_rfl) (by kernel_rfl) (by exact Nat.zero_lt_one) (by decide) rfl) trivial ?_
      refine p_step rfl (e_ge rfl rfl) trivial ?_
      refine p_end (hK29 _ ?_); clear hK29 K29
      refine pwp_seq_cond rfl fun K30 hK30 => ⟨fun hb31 => ?_, fun hb31 => ?_⟩
      ·have hb31R := hb31; (try simp only [z1, z2, z3, z4, z5, z6, ne_eq, z7, z8, z9, z10, z11, z12] at hb31); (try (have hmv := mvE_cnt hb31; have hrg := hmv.1; unfold rngQ at hrg))
       refine pwp_plain rfl fun K32 hK32 => ?_
       refine p_step rfl (e_move (v := .lit _ _ _) rfl) trivial ?_
       refine p_step rfl (e_faP (pl := [(0, 1, false), (1, 1, false), (2, 1, false), (3, 1, false), (4, 1, false), (5, 1, false)]) rfl (by kernel_rfl) (by kernel_rfl) (by decide) rfl) trivial ?_
       refine p_step rfl (e_loadH (v := .sc _) rfl hihj14_0 (by kernel_rfl) (by kernel_rfl) (by kernel_rfl) (by exact Nat.zero_lt_one) (by decide) rfl) trivial ?_
       refine p_step rfl (e_faP (pl := [(0, 1, false), (1, 1, false), (2, 1, false), (3, 1, false), (4, 1, false), (5, 1, false)]) rfl (by kernel_rfl) (by kernel_rfl) (by decide) rfl) trivial ?_
       refine p_step rfl (e_loadH (v := .sc _) rfl hihj14_0 (by kernel_rfl) (by kernel_rfl) (by kernel_rfl) (by exact Nat.zero_lt_one) (by decide) rfl) trivial ?_
       refine p_step rfl (e_faP (pl := [(0, 1, false), (1, 1, false), (2, 1, false), (3, 1, false), (4, 1, false), (5, 1, false)]) rfl (by kernel_rfl) (by kernel_rfl) (by decide) rfl) trivial ?_
       refine p_step rfl (e_loadH (v := .sc _) rfl hihj14_0 (by kernel_rfl) (by kernel_rfl) (by kernel_rfl) (by exact Nat.zero_lt_one) (by decide) rfl) trivial ?_
       refine p_step rfl (e_faP (pl := [(0, 1, false), (1, 1, false), (2, 1, false), (3, 1, false), (4, 1, false), (5, 1, false)]) rfl (by kernel_rfl) (by kernel_rfl) (by decide) rfl) trivial ?_
       refine p_step rfl (e_loadH (v := .sc _) rfl hihj14_0 (by kernel_rfl) (by kernel_rfl) (by kernel_rfl) (by exact Nat.zero_lt_one) (by decide) rfl) trivial ?_
       refine p_step rfl (e_build (cs := Stock.enc (⟨m.part, m.til, m.after, m.count⟩ : Stock)) (zs := [.str ByteArray.empty, .int 0, .int 0, .int 0]) (pl := [(0, 1, false), (1, 1, false), (2, 1, false), (3, 1, false)]) (by kernel_rfl) (by kernel_rfl) (by kernel_rfl) rfl rfl (by exact ⟨by decide, rfl, Nat.le_of_ble_eq_true rfl, rfl, ⟨by decide, rfl, Nat.le_of_ble_eq_true rfl, rfl, ⟨by decide, rfl, Nat.le_of_ble_eq_true rfl, rfl, ⟨by decide, rfl, Nat.le_of_ble_eq_true rfl, rfl, trivial⟩⟩⟩⟩) rfl) trivial ?_
       refine p_call rfl (.cons inn_lit (.cons (inn_agg (Stock.pure _)) .nil)) (PutF (xs ++ [(⟨m.part, m.fro, m.before, (0 - m.count)⟩ : Stock)]) (⟨m.part, m.til, m.after, m.count⟩ : Stock) (by first | omega | (simp only [List.length_append, List.length_cons, List.length_nil]; omega)) (by first | exact hcb | exact bd_snoc hcb (by first | exact ⟨by show -1000000 ≤ (0 - m.count); omega, by show (0 - m.count) ≤ 1000000; omega⟩ | exact ⟨by show -1000000 ≤ m.count; omega, by show m.count ≤ 1000000; omega⟩)) (by first | exact ⟨by show -1000000 ≤ (0 - m.count); omega, by show (0 - m.count) ≤ 1000000; omega⟩ | exact ⟨by show -1000000 ≤ m.count; omega, by show m.count ≤ 1000000; omega⟩)) ?_
       refine p_step rfl (e_assign (v := .lit _ _ _) rfl) trivial ?_
       refine p_end (hK32 _ ?_); clear hK32 K32
       refine seq_norm (hK30 _ ?_); clear hK30 K30
       refine pwp_seq_plain rfl fun K33 hK33 => ?_
       refine p_step rfl (e_move (v := .lit _ _ _) rfl) trivial ?_
       refine p_call rfl (.cons inn_lit .nil) (settled (putF [] ((xs ++ [(⟨m.part, m.fro, m.before, (0 - m.count)⟩ : Stock)]) ++ [(⟨m.part, m.til, m.after, m.count⟩ : Stock)])) (by have := putF_len (((xs ++ [(⟨m.part, m.fro, m.before, (0 - m.count)⟩ : Stock)]) ++ [(⟨m.part, m.til, m.after, m.count⟩ : Stock)])) []; simp only [List.length_nil, List.length_append, List.length_cons] at this; omega)) ?_
       refine p_step rfl (e_ext (v := .lit _ _ _) rfl (by simp) rfl) trivial ?_
       refine p_step rfl (e_ext (v := .sc _) rfl (by simp) rfl) trivial ?_
       refine p_step rfl (e_assign (v := .lit _ _ _) rfl) trivial ?_
       refine p_step rfl (e_assign (v := .sc _) rfl) trivial ?_
       refine p_end (hK33 _ ?_); clear hK33 K33
       refine pwp_ret ?_
       refine end2 (v := .lit _ _ _) (w := .sc _) rfl rfl ?_
       first
         | exact pr_out0 (rm_1 (by assumption))
         | exact pr_out0 (rm_2 (by assumption) (by omega) (by assumption))
         | exact rm_out (rm_3 (by assumption) (fun h9 => by have := h9.1; have := h9.2; omega) (by rw [ex_ft (by assumption) (by assumption), List.append_assoc]))
         | exact rm_out (rm_3 (by assumption) (fun h9 => by have := h9.1; have := h9.2; omega) (by rw [ex_f (by omega) (by omega)]))
         | exact rm_out (rm_3 (by assumption) (fun h9 => by have := h9.1; have := h9.2; omega) (by rw [ex_t (by omega) (by omega)]))
         | exact rm_out (rm_3 (by assumption) (fun h9 => by have := h9.1; have := h9.2; omega) (by rw [ex_0 (by omega) (by omega), List.append_nil]))
      ·have hb31R := hb31; (try simp only [z1, z2, z3, z4, z5, z6, ne_eq, z7, z8, z9, z10, z11, z12] at hb31); (try (have hmv := mvE_cnt hb31; have hrg := hmv.1; unfold rngQ at hrg))
       refine pwp_skip ?_
       refine seq_norm (hK30 _ ?_); clear hK30 K30
       refine pwp_seq_plain rfl fun K34 hK34 => ?_
       refine p_step rfl (e_move (v := .lit _ _ _) rfl) trivial ?_
       refine p_call rfl (.cons inn_lit .nil) (settled (putF [] (xs ++ [(⟨m.part, m.fro, m.before, (0 - m.count)⟩ : Stock)])) (by have := putF_len ((xs ++ [(⟨m.part, m.fro, m.before, (0 - m.count)⟩ : Stock)])) []; simp only [List.length_nil, List.length_append, List.length_cons] at this; omega)) ?_
       refine p_step rfl (e_ext (v := .lit _ _ _) rfl (by simp) rfl) trivial ?_
       refine p_step rfl (e_ext (v := .sc _) rfl (by simp) rfl) trivial ?_
       refine p_step rfl (e_assign (v := .lit _ _ _) rfl) trivial ?_
       refine p_step rfl (e_assign (v := .sc _) rfl) trivial ?_
       refine p_end (hK34 _ ?_); clear hK34 K34
       refine pwp_ret ?_
       refine end2 (v := .lit _ _ _) (w := .sc _) rfl rfl ?_
       first
         | exact pr_out0 (rm_1 (by assumption))
         | exact pr_out0 (rm_2 (by assumption) (by omega) (by assumption))
         | exact rm_out (rm_3 (by assumption) (fun h9 => by have := h9.1; have := h9.2; omega) (by rw [ex_ft (by assumption) (by assumption), List.append_assoc]))
         | exact rm_out (rm_3 (by assumption) (fun h9 => by have := h9.1; have := h9.2; omega) (by rw [ex_f (by omega) (by omega)]))
         | exact rm_out (rm_3 (by assumption) (fun h9 => by have := h9.1; have := h9.2; omega) (by rw [ex_t (by omega) (by omega)]))
         | exact rm_out (rm_3 (by assumption) (fun h9 => by have := h9.1; have := h9.2; omega) (by rw [ex_0 (by omega) (by omega), List.append_nil]))
    ·have hb23R := hb23; (try simp only [z1, z2, z3, z4, z5, z6, ne_eq, z7, z8, z9, z10, z11, z12] at hb23); (try (have hmv := mvE_cnt hb23; have hrg := hmv.1; unfold rngQ at hrg))
     refine pwp_skip ?_
     refine seq_norm (hK22 _ ?_); clear hK22 K22
     refine pwp_seq_seq ?_
     refine pwp_seq_plain rfl fun K35 hK35 => ?_
     refine p_step rfl (e_faP (pl := [(0, 1, false), (1, 1, false), (2, 1, false), (3, 1, false), (4, 1, false), (5, 1, false)]) rfl (by kernel_rfl) (by kernel_rfl) (by decide) rfl) trivial ?_
     refine p_step rfl (e_loadH (v := .sc _) rfl hihj14_0 (by kernel_rfl) (by kernel_rfl) (by kernel_rfl) (by exact Nat.zero_lt_one) (by decide) rfl) trivial ?_
     refine p_step rfl (e_ge rfl rfl) trivial ?_
     refine p_end (hK35 _ ?_); clear hK35 K35
     refine pwp_seq_cond rfl fun K36 hK36 => ⟨fun hb37 => ?_, fun hb37 => ?_⟩
     ·have hb37R := hb37; (try simp only [z1, z2, z3, z4, z5, z6, ne_eq, z7, z8, z9, z10, z11, z12] at hb37); (try (have hmv := mvE_cnt hb37; have hrg := hmv.1; unfold rngQ at hrg))
      refine pwp_plain rfl fun K38 hK38 => ?_
      refine p_step rfl (e_move (v := _) rfl) trivial ?_
      refine p_step rfl (e_faP (pl := [(0, 1, false), (1, 1, false), (2, 1, false), (3, 1, false), (4, 1, false), (5, 1, false)]) rfl (by kernel_rfl) (by kernel_rfl) (by decide) rfl) trivial ?_
      refine p_step rfl (e_loadH (v := .sc _) rfl hihj14_0 (by kernel_rfl) (by kernel_rfl) (by kernel_rfl) (by exact Nat.zero_lt_one) (by decide) rfl) trivial ?_
      refine p_step rfl (e_faP (pl := [(0, 1, false), (1, 1, false), (2, 1, false), (3, 1, false), (4, 1, false), (5, 1, false)]) rfl (by kernel_rfl) (by kernel_rfl) (by decide) rfl) trivial ?_
      refine p_step rfl (e_loadH (v := .sc _) rfl hihj14_0 (by kernel_rfl) (by kernel_rfl) (by kernel_rfl) (by exact Nat.zero_lt_one) (by decide) rfl) trivial ?_
      refine p_step rfl (e_faP (pl := [(0, 1, false), (1, 1, false), (2, 1, false), (3, 1, false), (4, 1, false), (5, 1, false)]) rfl (by kernel_rfl) (by kernel_rfl) (by decide) rfl) trivial ?_
      refine p_step rfl (e_loadH (v := .sc _) rfl hihj14_0 (by kernel_rfl) (by kernel_rfl) (by kernel_rfl) (by exact Nat.zero_lt_one) (by decide) rfl) trivial ?_
      refine p_step rfl (e_faP (pl := [(0, 1, false), (1, 1, false), (2, 1, false), (3, 1, false), (4, 1, false), (5, 1, false)]) rfl (by kernel_rfl) (by kernel_rfl) (by decide) rfl) trivial ?_
      refine p_step rfl (e_loadH (v := .sc _) rfl hihj14_0 (by kernel_rfl) (by kernel_rfl) (by kernel_rfl) (by exact Nat.zero_lt_one) (by decide) rfl) trivial ?_
      refine p_step rfl (e_build (cs := Stock.enc (⟨m.part, m.til, m.after, m.count⟩ : Stock)) (zs := [.str ByteArray.empty, .int 0, .int 0, .int 0]) (pl := [(0, 1, false), (1, 1, false), (2, 1, false), (3, 1, false)]) (by kernel_rfl) (by kernel_rfl) (by kernel_rfl) rfl rfl (by exact ⟨by decide, rfl, Nat.le_of_ble_eq_true rfl, rfl, ⟨by decide, rfl, Nat.le_of_ble_eq_true rfl, rfl, ⟨by decide, rfl, Nat.le_of_ble_eq_true rfl, rfl, ⟨by decide, rfl, Nat.le_of_ble_eq_true rfl, rfl, trivial⟩⟩⟩⟩) rfl) trivial ?_
      refine p_call rfl (.cons (LitV.inn hlv) (.cons (inn_agg (Stock.pure _)) .nil)) (PutF xs (⟨m.part, m.til, m.after, m.count⟩ : Stock) (by first | omega | (simp only [List.length_append, List.length_cons, List.length_nil]; omega)) (by first | exact hcb | exact bd_snoc hcb (by first | exact ⟨by show -1000000 ≤ (0 - m.count); omega, by show (0 - m.count) ≤ 1000000; omega⟩ | exact ⟨by show -1000000 ≤ m.count; omega, by show m.count ≤ 1000000; omega⟩)) (by first | exact ⟨by show -1000000 ≤ (0 - m.count); omega, by show (0 - m.count) ≤ 1000000; omega⟩ | exact ⟨by show -1000000 ≤ m.count; omega, by show m.count ≤ 1000000; omega⟩)) ?_
      refine p_step rfl (e_assign (v := .lit _ _ _) rfl) trivial ?_
      refine p_end (hK38 _ ?_); clear hK38 K38
      refine seq_norm (hK36 _ ?_); clear hK36 K36
      refine pwp_seq_plain rfl fun K39 hK39 => ?_
      refine p_step rfl (e_move (v := .lit _ _ _) rfl) trivial ?_
      refine p_call rfl (.cons inn_lit .nil) (settled (putF [] (xs ++ [(⟨m.part, m.til, m.after, m.count⟩ : Stock)])) (by have := putF_len ((xs ++ [(⟨m.part, m.til, m.after, m.count⟩ : Stock)])) []; simp only [List.length_nil, List.length_append, List.length_cons] at this; omega)) ?_
      refine p_step rfl (e_ext (v := .lit _ _ _) rfl (by simp) rfl) trivial ?_
      refine p_step rfl (e_ext (v := .sc _) rfl (by simp) rfl) trivial ?_
      refine p_step rfl (e_assign (v := .lit _ _ _) rfl) trivial ?_
      refine p_step rfl (e_assign (v := .sc _) rfl) trivial ?_
      refine p_end (hK39 _ ?_); clear hK39 K39
      refine pwp_ret ?_
      refine end2 (v := .lit _ _ _) (w := .sc _) rfl rfl ?_
      first
        | exact pr_out0 (rm_1 (by assumption))
        | exact pr_out0 (rm_2 (by assumption) (by omega) (by assumption))
        | exact rm_out (rm_3 (by assumption) (fun h9 => by have := h9.1; have := h9.2; omega) (by rw [ex_ft (by assumption) (by assumption), List.append_assoc]))
        | exact rm_out (rm_3 (by assumption) (fun h9 => by have := h9.1; have := h9.2; omega) (by rw [ex_f (by omega) (by omega)]))
        | exact rm_out (rm_3 (by assumption) (fun h9 => by have := h9.1; have := h9.2; omega) (by rw [ex_t (by omega) (by omega)]))
        | exact rm_out (rm_3 (by assumption) (fun h9 => by have := h9.1; have := h9.2; omega) (by rw [ex_0 (by omega) (by omega), List.append_nil]))
     ·have hb37R := hb37; (try simp only [z1, z2, z3, z4, z5, z6, ne_eq, z7, z8, z9, z10, z11, z12] at hb37); (try (have hmv := mvE_cnt hb37; have hrg := hmv.1; unfold rngQ at hrg))
      refine pwp_skip ?_
      refine seq_norm (hK36 _ ?_); clear hK36 K36
      refine pwp_seq_plain rfl fun K40 hK40 => ?_
      refine p_step rfl (e_move (v := _) rfl) trivial ?_
      refine p_call rfl (.cons (LitV.inn hlv) .nil) (settled (putF [] xs) (by have := putF_len (xs) []; simp only [List.length_nil, List.length_append, List.length_cons] at this; omega)) ?_
      refine p_step rfl (e_ext (v := .lit _ _ _) rfl (by simp) rfl) trivial ?_
      refine p_step rfl (e_ext (v := .sc _) rfl (by simp) rfl) trivial ?_
      refine p_step rfl (e_assign (v := .lit _ _ _) rfl) trivial ?_
      refine p_step rfl (e_assign (v := .sc _) rfl) trivial ?_
      refine p_end (hK40 _ ?_); clear hK40 K40
      refine pwp_ret ?_
      refine end2 (v := .lit _ _ _) (w := .sc _) rfl rfl ?_
      first
        | exact pr_out0 (rm_1 (by assumption))
        | exact pr_out0 (rm_2 (by assumption) (by omega) (by assumption))
        | exact rm_out (rm_3 (by assumption) (fun h9 => by have := h9.1; have := h9.2; omega) (by rw [ex_ft (by assumption) (by assumption), List.append_assoc]))
        | exact rm_out (rm_3 (by assumption) (fun h9 => by have := h9.1; have := h9.2; omega) (by rw [ex_f (by omega) (by omega)]))
        | exact rm_out (rm_3 (by assumption) (fun h9 => by have := h9.1; have := h9.2; omega) (by rw [ex_t (by omega) (by omega)]))
        | exact rm_out (rm_3 (by assumption) (fun h9 => by have := h9.1; have := h9.2; omega) (by rw [ex_0 (by omega) (by omega), List.append_nil]))

end Go.Proofs.YtigdmkhdmbbfiaaDoor

/- The law of movements. No conditions. -/
set_option linter.unusedSimpArgs false
set_option linter.unusedVariables false
set_option maxRecDepth 100000
set_option maxHeartbeats 8000000
namespace Go.Proofs.YtigdmkhdmbbfiaaDoor
open Go Go.Pv

theorem listS_len (m : Sto) : (listS m).2.length ≤ 200 := by
  unfold listS
  dsimp only
  split
  · split
    · simp
    · omega
  · simp
theorem moveR_len (xs : List Stock) (m : Movement) : (moveR xs m).2.length ≤ 200 := by
  unfold moveR
  split
  · simp
  · split
    · simp
    · split
      · simp
      · exact listS_len _
theorem rng_opp {m : Movement} (h : rngQ m) : rngQ (opp m) := by unfold rngQ opp at *; dsimp only; omega
theorem undE_0 {m : Movement} (h : ¬ mvE m = 0) : undE m = mvE m ∧ undM m = mv0 := und_1 h
theorem undE_1 {m : Movement} (h : mvE m = 0) (hp : permP (opp m) = false) : undE m = 21 ∧ undM m = mv0 := by
  obtain ⟨h1, h2, h3⟩ := mvE_ok h
  refine und_2 h ?_
  rw [← mv_21 (m := opp m) h1 (rng_opp h2) hp]; decide
theorem undE_2 {m : Movement} (h : mvE m = 0) (hp : permP (opp m) = true) : undE m = 0 ∧ undM m = opp m := by
  obtain ⟨h1, h2, h3⟩ := mvE_ok h
  exact und_3 h (mv_0 (m := opp m) h1 (rng_opp h2) hp).symm

theorem fr3 : (inFrame Tryd.f3.ntmps (Tryd.f3.body.getD .skip) && Tryd.f3.results.toList.all (resScope Tryd.f3.ntmps)) = true := by kernel_rfl
theorem hmoves (xs : List Stock) (m : Movement) (hlx : xs.length ≤ 9223372036854775807) (hmx : m.part.size ≤ 9223372036854775807) : PCalls Tryd.prog 3 [.lit true 4 (xs.map Stock.enc), .agg m.enc] (.bool true) := by
  refine PCalls.of_code Tryd.func3 rfl rfl (by kernel_rfl) mixed fr3 (by show _ ≤ 97; simp) (.sc _) ?_
  refine pwp_seq_plain rfl fun K1 hK1 => ?_
  refine p_new rfl (e_box (n := 6) rfl rfl) ⟨rfl, by decide⟩ ?_
  refine p_step rfl (e_assign (v := .sc _) rfl) trivial ?_
  refine p_end (hK1 _ ?_); clear hK1 K1
  refine pwp_seq_seq ?_
  refine pwp_seq_plain rfl fun K2 hK2 => ?_
  refine p_call rfl .nil (awake) ?_
  refine p_step rfl (e_not rfl) trivial ?_
  refine p_end (hK2 _ ?_); clear hK2 K2
  refine pwp_seq_cond (t := false) rfl fun K3 hK3 => ⟨nofun, fun _ => ?_⟩
  refine pwp_skip ?_
  refine seq_norm (hK3 _ ?_); clear hK3 K3
  refine pwp_seq_seq ?_
  refine pwp_seq_gops rfl fun K4 hK4 => ?_
  refine g_begin ?_
  refine g_step rfl rfl rfl rfl (e_move (v := .lit _ _ _) rfl) trivial ?_
  refine g_call rfl rfl rfl rfl (.cons inn_lit .nil) (ShortS _ hlx) ?_
  refine g_step rfl rfl rfl rfl (e_not rfl) trivial ?_
  refine g_step rfl rfl rfl rfl (e_move (v := .sc _) rfl) trivial ?_
  refine g_cases (fun hb5 => ?_) (fun hb5 => ?_)
  ·have hb5R := hb5; (try simp only [z1, z2, z3, z4, z5, z6, ne_eq, z7, z8, z9, z10, z11, z12] at hb5); (try (have hsh := shortB_iff hb5)); (try (have hok := stockE_ok hb5)); (try (have hm1 := mo_1 (m := m) hb5)); (try (have hm0 := move_ref (m := m) hb5)); (try (have hu0 := undE_0 hb5)); (try (have hu1 := undE_1 (by assumption) hb5)); (try (have hu2 := undE_2 (by assumption) hb5))
   refine g_skip rfl rfl rfl ?_
   refine g_skip rfl rfl rfl ?_
   refine g_skip rfl rfl rfl ?_
   refine g_skip rfl rfl rfl ?_
   refine g_step rfl rfl rfl rfl (e_pickT (v := .sc _) rfl rfl) trivial ?_
   refine g_end (ds := [19, 20, 21, 22]) rfl rfl (hK4 _ ?_); clear hK4 K4
   refine pwp_seq_cond (t := true) rfl fun K6 hK6 => ⟨fun _ => ?_, nofun⟩
   refine pwp_seq_plain rfl fun K7 hK7 => ?_
   refine p_step rfl (e_assign (v := .sc _) rfl) trivial ?_
   refine p_end (hK7 _ ?_); clear hK7 K7
   refine pwp_ret ?_
   refine ret_seq ?_
   refine end1 (v := .sc _) rfl ?_
   first
     | exact out_b rfl
     | (exfalso; omega)
     | (refine out_b ?_; simp; done)
     | exact absurd hu0.2 (by assumption)
     | exact absurd hu1.2 (by assumption)
     | (exfalso; rw [hu1] at *; omega)
     | (exfalso; rw [hu0.1] at *; omega)
     | (exfalso; rw [hu0.2] at *; simp_all; done)
     | (exfalso; rw [hu1.2] at *; simp_all; done)
     | (refine out_b ?_; simp [hm1]; done)
     | (refine out_b ?_; simp [hm0]; done)
     | (exfalso; simp_all; done)
     | (exfalso; simp_all; omega)
  ·have hb5R := hb5; (try simp only [z1, z2, z3, z4, z5, z6, ne_eq, z7, z8, z9, z10, z11, z12] at hb5); (try (have hsh := shortB_iff hb5)); (try (have hok := stockE_ok hb5)); (try (have hm1 := mo_1 (m := m) hb5)); (try (have hm0 := move_ref (m := m) hb5)); (try (have hu0 := undE_0 hb5)); (try (have hu1 := undE_1 (by assumption) hb5)); (try (have hu2 := undE_2 (by assumption) hb5))
   refine g_step rfl rfl rfl rfl (e_faP (pl := [(0, 1, false), (1, 1, false), (2, 1, false), (3, 1, false), (4, 1, false), (5, 1, false)]) rfl (by kernel_rfl) (by kernel_rfl) (by decide) rfl) trivial ?_
   refine g_step rfl rfl rfl rfl (e_loadH (v := .sc _) rfl (hset_self _ _ _) (by kernel_rfl) (by kernel_rfl) (by kernel_rfl) (by exact Nat.zero_lt_one) (by decide) rfl) trivial ?_
   refine g_step rfl rfl rfl rfl (e_lenS rfl (by kernel_rfl)) trivial ?_
   refine g_step rfl rfl rfl rfl (e_gt rfl rfl) trivial ?_
   refine g_step rfl rfl rfl rfl (e_pickF (v := .sc _) rfl rfl) trivial ?_
   refine g_end (ds := [19, 20, 21, 22]) rfl rfl (hK4 _ ?_); clear hK4 K4
   refine pwp_seq_cond rfl fun K8 hK8 => ⟨fun hb9 => ?_, fun hb9 => ?_⟩
   ·have hb9R := hb9; (try simp only [z1, z2, z3, z4, z5, z6, ne_eq, z7, z8, z9, z10, z11, z12] at hb9); (try (have hsh := shortB_iff hb9)); (try (have hok := stockE_ok hb9)); (try (have hm1 := mo_1 (m := m) hb9)); (try (have hm0 := move_ref (m := m) hb9)); (try (have hu0 := undE_0 hb9)); (try (have hu1 := undE_1 (by assumption) hb9)); (try (have hu2 := undE_2 (by assumption) hb9))
    refine pwp_seq_plain rfl fun K10 hK10 => ?_
    refine p_step rfl (e_assign (v := .sc _) rfl) trivial ?_
    refine p_end (hK10 _ ?_); clear hK10 K10
    refine pwp_ret ?_
    refine ret_seq ?_
    refine end1 (v := .sc _) rfl ?_
    first
      | exact out_b rfl
      | (exfalso; omega)
      | (refine out_b ?_; simp; done)
      | exact absurd hu0.2 (by assumption)
      | exact absurd hu1.2 (by assumption)
      | (exfalso; rw [hu1] at *; omega)
      | (exfalso; rw [hu0.1] at *; omega)
      | (exfalso; rw [hu0.2] at *; simp_all; done)
      | (exfalso; rw [hu1.2] at *; simp_all; done)
      | (refine out_b ?_; simp [hm1]; done)
      | (refine out_b ?_; simp [hm0]; done)
      | (exfalso; simp_all; done)
      | (exfalso; simp_all; omega)
   ·have hb9R := hb9; (try simp only [z1, z2, z3, z4, z5, z6, ne_eq, z7, z8, z9, z10, z11, z12] at hb9); (try (have hsh := shortB_iff hb9)); (try (have hok := stockE_ok hb9)); (try (have hm1 := mo_1 (m := m) hb9)); (try (have hm0 := move_ref (m := m) hb9)); (try (have hu0 := undE_0 hb9)); (try (have hu1 := undE_1 (by assumption) hb9)); (try (have hu2 := undE_2 (by assumption) hb9))
    refine pwp_skip ?_
    refine seq_norm (hK8 _ ?_); clear hK8 K8
    refine pwp_seq_plain rfl fun K11 hK11 => ?_
    refine p_step rfl (e_loadHA (cs := Movement.enc (m)) (n := 6) rfl (hset_self _ _ _) (by kernel_rfl) (by kernel_rfl) (by kernel_rfl) (by exact Nat.zero_lt_one) (by decide) rfl) trivial ?_
    refine p_call rfl (.cons (inn_agg (Movement.pure (m))) .nil) (refCheckMovement _ (by omega)) ?_
    refine p_step rfl (e_assign (v := .sc _) rfl) trivial ?_
    refine p_end (hK11 _ ?_); clear hK11 K11
    refine pwp_seq_plain rfl fun K12 hK12 => ?_
    refine p_step rfl (e_loadHA (cs := Movement.enc (m)) (n := 6) rfl (hset_self _ _ _) (by kernel_rfl) (by kernel_rfl) (by kernel_rfl) (by exact Nat.zero_lt_one) (by decide) rfl) trivial ?_
    refine p_call rfl (.cons (inn_agg (Movement.pure (m))) .nil) (Undo _ (by omega)) ?_
    refine p_step rfl (e_move (v := .tup _) rfl) trivial ?_
    refine p_step rfl (e_ext (v := .agg _) rfl (by simp) rfl) trivial ?_
    refine p_step rfl (e_ext (v := .sc _) rfl (by simp) rfl) trivial ?_
    refine p_new rfl (e_alloc (cs := [.str ByteArray.empty, .int 0, .int 0, .int 0, .int 0, .int 0]) (n := 6) (by kernel_rfl) rfl (by decide)) (ob_alloc (by decide)) ?_
    refine p_store rfl (e_storeA rfl (hset_self _ _ _) rfl rfl rfl (by kernel_rfl) rfl (by kernel_rfl)) trivial ?_
    refine p_step rfl (e_assign (v := .sc _) rfl) trivial ?_
    refine p_end (hK12 _ ?_); clear hK12 K12
    refine pwp_seq_seq ?_
    refine pwp_seq_plain rfl fun K13 hK13 => ?_
    refine p_step rfl (e_loadHA (cs := Movement.enc (m)) (n := 6) rfl ((hset_ne (key_ne rfl)).trans ((hset_ne (key_ne rfl)).trans (hset_self _ _ _))) (by kernel_rfl) (by kernel_rfl) (by kernel_rfl) (by exact Nat.zero_lt_one) (by decide) rfl) trivial ?_
    refine p_call rfl (.cons (inn_agg (Movement.pure (m))) .nil) (CheckMovement _ (by omega)) ?_
    refine p_step rfl (e_move (v := .sc _) rfl) trivial ?_
    refine p_step rfl (e_ne rfl rfl) trivial ?_
    refine p_end (hK13 _ ?_); clear hK13 K13
    refine pwp_seq_cond rfl fun K14 hK14 => ⟨fun hb15 => ?_, fun hb15 => ?_⟩
    ·have hb15R := hb15; (try simp only [z1, z2, z3, z4, z5, z6, ne_eq, z7, z8, z9, z10, z11, z12] at hb15); (try (have hsh := shortB_iff hb15)); (try (have hok := stockE_ok hb15)); (try (have hm1 := mo_1 (m := m) hb15)); (try (have hm0 := move_ref (m := m) hb15)); (try (have hu0 := undE_0 hb15)); (try (have hu1 := undE_1 (by assumption) hb15)); (try (have hu2 := undE_2 (by assumption) hb15))
     refine pwp_seq_plain rfl fun K16 hK16 => ?_
     refine p_step rfl (e_assign (v := .sc _) rfl) trivial ?_
     refine p_end (hK16 _ ?_); clear hK16 K16
     refine pwp_ret ?_
     refine ret_seq ?_
     refine end1 (v := .sc _) rfl ?_
     first
       | exact out_b rfl
       | (exfalso; omega)
       | (refine out_b ?_; simp; done)
       | exact absurd hu0.2 (by assumption)
       | exact absurd hu1.2 (by assumption)
       | (exfalso; rw [hu1] at *; omega)
       | (exfalso; rw [hu0.1] at *; omega)
       | (exfalso; rw [hu0.2] at *; simp_all; done)
       | (exfalso; rw [hu1.2] at *; simp_all; done)
       | (refine out_b ?_; simp [hm1]; done)
       | (refine out_b ?_; simp [hm0]; done)
       | (exfalso; simp_all; done)
       | (exfalso; simp_all; omega)
    ·have hb15R := hb15; (try simp only [z1, z2, z3, z4, z5, z6, ne_eq, z7, z8, z9, z10, z11, z12] at hb15); (try (have hsh := shortB_iff hb15)); (try (have hok := stockE_ok hb15)); (try (have hm1 := mo_1 (m := m) hb15)); (try (have hm0 := move_ref (m := m) hb15)); (try (have hu0 := undE_0 hb15)); (try (have hu1 := undE_1 (by assumption) hb15)); (try (have hu2 := undE_2 (by assumption) hb15))
     refine pwp_skip ?_
     refine seq_norm (hK14 _ ?_); clear hK14 K14
     refine pwp_seq_seq ?_
     refine pwp_seq_gops rfl fun K17 hK17 => ?_
     refine g_begin ?_
     refine g_step rfl rfl rfl rfl (e_move (v := .sc _) rfl) trivial ?_
     refine g_step rfl rfl rfl rfl (e_eq rfl rfl) trivial ?_
     refine g_step rfl rfl rfl rfl (e_move (v := .sc _) rfl) trivial ?_
     refine g_cases (fun hb18 => ?_) (fun hb18 => ?_)
     ·have hb18R := hb18; (try simp only [z1, z2, z3, z4, z5, z6, ne_eq, z7, z8, z9, z10, z11, z12] at hb18); (try (have hsh := shortB_iff hb18)); (try (have hok := stockE_ok hb18)); (try (have hm1 := mo_1 (m := m) hb18)); (try (have hm0 := move_ref (m := m) hb18)); (try (have hu0 := undE_0 hb18)); (try (have hu1 := undE_1 (by assumption) hb18)); (try (have hu2 := undE_2 (by assumption) hb18))
      refine g_step rfl rfl rfl rfl (e_loadHA (cs := Movement.enc (m)) (n := 6) rfl ((hset_ne (key_ne rfl)).trans ((hset_ne (key_ne rfl)).trans (hset_self _ _ _))) (by kernel_rfl) (by kernel_rfl) (by kernel_rfl) (by exact Nat.zero_lt_one) (by decide) rfl) trivial ?_
      refine g_call rfl rfl rfl rfl (.cons (inn_agg (Movement.pure (m))) .nil) (Opposite _) ?_
      refine g_call rfl rfl rfl rfl (.cons (inn_agg (Movement.pure ((opp m)))) .nil) (refPermitted (opp m)) ?_
      refine g_step rfl rfl rfl rfl (e_not rfl) trivial ?_
      refine g_step rfl rfl rfl rfl (e_pickT (v := .sc _) rfl rfl) trivial ?_
      refine g_end (ds := [38, 39, 40, 41]) rfl rfl (hK17 _ ?_); clear hK17 K17
      refine pwp_seq_cond rfl fun K19 hK19 => ⟨fun hb20 => ?_, fun hb20 => ?_⟩
      ·have hb20R := hb20; (try simp only [z1, z2, z3, z4, z5, z6, ne_eq, z7, z8, z9, z10, z11, z12] at hb20); (try (have hsh := shortB_iff hb20)); (try (have hok := stockE_ok hb20)); (try (have hm1 := mo_1 (m := m) hb20)); (try (have hm0 := move_ref (m := m) hb20)); (try (have hu0 := undE_0 hb20)); (try (have hu1 := undE_1 (by assumption) hb20)); (try (have hu2 := undE_2 (by assumption) hb20))
       refine pwp_plain rfl fun K21 hK21 => ?_
       refine p_step rfl (e_assign (v := .sc _) rfl) trivial ?_
       refine p_end (hK21 _ ?_); clear hK21 K21
       refine seq_norm (hK19 _ ?_); clear hK19 K19
       refine pwp_seq_seq ?_
       refine pwp_seq_gops rfl fun K22 hK22 => ?_
       refine g_begin ?_
       refine g_step rfl rfl rfl rfl (e_move (v := .sc _) rfl) trivial ?_
       refine g_step rfl rfl rfl rfl (e_move (v := .sc _) rfl) trivial ?_
       refine g_step rfl rfl rfl rfl (e_ne rfl rfl) trivial ?_
       refine g_step rfl rfl rfl rfl (e_move (v := .sc _) rfl) trivial ?_
       refine g_cases (fun hb23 => ?_) (fun hb23 => ?_)
       ·have hb23R := hb23; (try simp only [z1, z2, z3, z4, z5, z6, ne_eq, z7, z8, z9, z10, z11, z12] at hb23); (try (have hsh := shortB_iff hb23)); (try (have hok := stockE_ok hb23)); (try (have hm1 := mo_1 (m := m) hb23)); (try (have hm0 := move_ref (m := m) hb23)); (try (have hu0 := undE_0 hb23)); (try (have hu1 := undE_1 (by assumption) hb23)); (try (have hu2 := undE_2 (by assumption) hb23))
        refine g_skip rfl rfl rfl ?_
        refine g_skip rfl rfl rfl ?_
        refine g_skip rfl rfl rfl ?_
        refine g_skip rfl rfl rfl ?_
        refine g_skip rfl rfl rfl ?_
        refine g_skip rfl rfl rfl ?_
        refine g_skip rfl rfl rfl ?_
        refine g_step rfl rfl rfl rfl (e_pickT (v := .sc _) rfl rfl) trivial ?_
        refine g_step rfl rfl rfl rfl (e_move (v := .sc _) rfl) trivial ?_
        refine g_skip rfl rfl rfl ?_
        refine g_skip rfl rfl rfl ?_
        refine g_skip rfl rfl rfl ?_
        refine g_skip rfl rfl rfl ?_
        refine g_skip rfl rfl rfl ?_
        refine g_nocall rfl rfl rfl ?_
        refine g_skip rfl rfl rfl ?_
        refine g_skip rfl rfl rfl ?_
        refine g_step rfl rfl rfl rfl (e_pickT (v := .sc _) rfl rfl) trivial ?_
        refine g_end (ds := [47, 48, 49, 50, 51, 52, 53, 56, 57, 58, 59, 60, 61, 62, 63]) (by kernel_rfl) rfl (hK22 _ ?_); clear hK22 K22
        refine pwp_seq_cond (t := true) rfl fun K24 hK24 => ⟨fun _ => ?_, nofun⟩
        refine pwp_seq_plain rfl fun K25 hK25 => ?_
        refine p_step rfl (e_assign (v := .sc _) rfl) trivial ?_
        refine p_end (hK25 _ ?_); clear hK25 K25
        refine pwp_ret ?_
        refine ret_seq ?_
        refine end1 (v := .sc _) rfl ?_
        first
          | exact out_b rfl
          | (exfalso; omega)
          | (refine out_b ?_; simp; done)
          | exact absurd hu0.2 (by assumption)
          | exact absurd hu1.2 (by assumption)
          | (exfalso; rw [hu1] at *; omega)
          | (exfalso; rw [hu0.1] at *; omega)
          | (exfalso; rw [hu0.2] at *; simp_all; done)
          | (exfalso; rw [hu1.2] at *; simp_all; done)
          | (refine out_b ?_; simp [hm1]; done)
          | (refine out_b ?_; simp [hm0]; done)
          | (exfalso; simp_all; done)
          | (exfalso; simp_all; omega)
       ·have hb23R := hb23; (try simp only [z1, z2, z3, z4, z5, z6, ne_eq, z7, z8, z9, z10, z11, z12] at hb23); (try (have hsh := shortB_iff hb23)); (try (have hok := stockE_ok hb23)); (try (have hm1 := mo_1 (m := m) hb23)); (try (have hm0 := move_ref (m := m) hb23)); (try (have hu0 := undE_0 hb23)); (try (have hu1 := undE_1 (by assumption) hb23)); (try (have hu2 := undE_2 (by assumption) hb23))
        refine g_step rfl rfl rfl rfl (e_move (v := .sc _) rfl) trivial ?_
        refine g_step rfl rfl rfl rfl (e_ne rfl rfl) trivial ?_
        refine g_step rfl rfl rfl rfl (e_move (v := .sc _) rfl) trivial ?_
        refine g_cases (fun hb26 => ?_) (fun hb26 => ?_)
        ·have hb26R := hb26; (try simp only [z1, z2, z3, z4, z5, z6, ne_eq, z7, z8, z9, z10, z11, z12] at hb26); (try (have hsh := shortB_iff hb26)); (try (have hok := stockE_ok hb26)); (try (have hm1 := mo_1 (m := m) hb26)); (try (have hm0 := move_ref (m := m) hb26)); (try (have hu0 := undE_0 hb26)); (try (have hu1 := undE_1 (by assumption) hb26)); (try (have hu2 := undE_2 (by assumption) hb26))
         refine g_step rfl rfl rfl rfl (e_loadHA (cs := Movement.enc ((undM m))) (n := 6) rfl (hset_self _ _ _) (by kernel_rfl) (by kernel_rfl) (by kernel_rfl) (by exact Nat.zero_lt_one) (by decide) rfl) trivial ?_
         refine g_step rfl rfl rfl rfl (e_build (cs := Movement.enc (⟨(⟨#[]⟩ : ByteArray), 0, 0, 0, 0, 0⟩ : Movement)) (zs := [.str ByteArray.empty, .int 0, .int 0, .int 0, .int 0, .int 0]) (pl := [(0, 1, false), (1, 1, false), (2, 1, false), (3, 1, false), (4, 1, false), (5, 1, false)]) (by kernel_rfl) (by kernel_rfl) (by kernel_rfl) rfl rfl (by exact trivial) rfl) trivial ?_
         refine g_step rfl rfl rfl rfl (e_ane rfl rfl (by kernel_rfl) (eqOk_Movement ((undM m)) ((⟨(⟨#[]⟩ : ByteArray), 0, 0, 0, 0, 0⟩ : Movement))) (eqV_Movement ((undM m)) ((⟨(⟨#[]⟩ : ByteArray), 0, 0, 0, 0, 0⟩ : Movement)))) trivial ?_
         refine g_step rfl rfl rfl rfl (e_pickT (v := .sc _) rfl rfl) trivial ?_
         refine g_step rfl rfl rfl rfl (e_pickF (v := .sc _) rfl rfl) trivial ?_
         refine g_step rfl rfl rfl rfl (e_move (v := .sc _) rfl) trivial ?_
         refine g_cases (fun hb27 => ?_) (fun hb27 => ?_)
         ·have hb27R := hb27; (try simp only [z1, z2, z3, z4, z5, z6, ne_eq, z7, z8, z9, z10, z11, z12] at hb27); (try (have hsh := shortB_iff hb27)); (try (have hok := stockE_ok hb27)); (try (have hm1 := mo_1 (m := m) hb27)); (try (have hm0 := move_ref (m := m) hb27)); (try (have hu0 := undE_0 hb27)); (try (have hu1 := undE_1 (by assumption) hb27)); (try (have hu2 := undE_2 (by assumption) hb27))
          refine g_skip rfl rfl rfl ?_
          refine g_skip rfl rfl rfl ?_
          refine g_skip rfl rfl rfl ?_
          refine g_skip rfl rfl rfl ?_
          refine g_skip rfl rfl rfl ?_
          refine g_nocall rfl rfl rfl ?_
          refine g_skip rfl rfl rfl ?_
          refine g_skip rfl rfl rfl ?_
          refine g_step rfl rfl rfl rfl (e_pickT (v := .sc _) rfl rfl) trivial ?_
          refine g_end (ds := [47, 48, 49, 50, 51, 52, 53, 56, 57, 58, 59, 60, 61, 62, 63]) (by kernel_rfl) rfl (hK22 _ ?_); clear hK22 K22
          refine pwp_seq_cond (t := true) rfl fun K28 hK28 => ⟨fun _ => ?_, nofun⟩
          refine pwp_seq_plain rfl fun K29 hK29 => ?_
          refine p_step rfl (e_assign (v := .sc _) rfl) trivial ?_
          refine p_end (hK29 _ ?_); clear hK29 K29
          refine pwp_ret ?_
          refine ret_seq ?_
          refine end1 (v := .sc _) rfl ?_
          first
            | exact out_b rfl
            | (exfalso; omega)
            | (refine out_b ?_; simp; done)
            | exact absurd hu0.2 (by assumption)
            | exact absurd hu1.2 (by assumption)
            | (exfalso; rw [hu1] at *; omega)
            | (exfalso; rw [hu0.1] at *; omega)
            | (exfalso; rw [hu0.2] at *; simp_all; done)
            | (exfalso; rw [hu1.2] at *; simp_all; done)
            | (refine out_b ?_; simp [hm1]; done)
            | (refine out_b ?_; simp [hm0]; done)
            | (exfalso; simp_all; done)
            | (exfalso; simp_all; omega)
         ·have hb27R := hb27; (try simp only [z1, z2, z3, z4, z5, z6, ne_eq, z7, z8, z9, z10, z11, z12] at hb27); (try (have hsh := shortB_iff hb27)); (try (have hok := stockE_ok hb27)); (try (have hm1 := mo_1 (m := m) hb27)); (try (have hm0 := move_ref (m := m) hb27)); (try (have hu0 := undE_0 hb27)); (try (have hu1 := undE_1 (by assumption) hb27)); (try (have hu2 := undE_2 (by assumption) hb27))
          refine g_step rfl rfl rfl rfl (e_move (v := .sc _) rfl) trivial ?_
          refine g_step rfl rfl rfl rfl (e_eq rfl rfl) trivial ?_
          refine g_step rfl rfl rfl rfl (e_move (v := .sc _) rfl) trivial ?_
          refine g_cases (fun hb30 => ?_) (fun hb30 => ?_)
          ·have hb30R := hb30; (try simp only [z1, z2, z3, z4, z5, z6, ne_eq, z7, z8, z9, z10, z11, z12] at hb30); (try (have hsh := shortB_iff hb30)); (try (have hok := stockE_ok hb30)); (try (have hm1 := mo_1 (m := m) hb30)); (try (have hm0 := move_ref (m := m) hb30)); (try (have hu0 := undE_0 hb30)); (try (have hu1 := undE_1 (by assumption) hb30)); (try (have hu2 := undE_2 (by assumption) hb30))
           refine g_step rfl rfl rfl rfl (e_loadHA (cs := Movement.enc ((undM m))) (n := 6) rfl (hset_self _ _ _) (by kernel_rfl) (by kernel_rfl) (by kernel_rfl) (by exact Nat.zero_lt_one) (by decide) rfl) trivial ?_
           refine g_step rfl rfl rfl rfl (e_loadHA (cs := Movement.enc (m)) (n := 6) rfl ((hset_ne (key_ne rfl)).trans ((hset_ne (key_ne rfl)).trans (hset_self _ _ _))) (by kernel_rfl) (by kernel_rfl) (by kernel_rfl) (by exact Nat.zero_lt_one) (by decide) rfl) trivial ?_
           refine g_call rfl rfl rfl rfl (.cons (inn_agg (Movement.pure (m))) .nil) (Opposite _) ?_
           refine g_step rfl rfl rfl rfl (e_ane rfl rfl (by kernel_rfl) (eqOk_Movement ((undM m)) ((opp m))) (eqV_Movement ((undM m)) ((opp m)))) trivial ?_
           refine g_step rfl rfl rfl rfl (e_pickT (v := .sc _) rfl rfl) trivial ?_
           refine g_step rfl rfl rfl rfl (e_pickF (v := .sc _) rfl rfl) trivial ?_
           refine g_end (ds := [47, 48, 49, 50, 51, 52, 53, 56, 57, 58, 59, 60, 61, 62, 63]) (by kernel_rfl) rfl (hK22 _ ?_); clear hK22 K22
           refine pwp_seq_cond rfl fun K31 hK31 => ⟨fun hb32 => ?_, fun hb32 => ?_⟩
           ·have hb32R := hb32; (try simp only [z1, z2, z3, z4, z5, z6, ne_eq, z7, z8, z9, z10, z11, z12] at hb32); (try (have hsh := shortB_iff hb32)); (try (have hok := stockE_ok hb32)); (try (have hm1 := mo_1 (m := m) hb32)); (try (have hm0 := move_ref (m := m) hb32)); (try (have hu0 := undE_0 hb32)); (try (have hu1 := undE_1 (by assumption) hb32)); (try (have hu2 := undE_2 (by assumption) hb32))
            refine pwp_seq_plain rfl fun K33 hK33 => ?_
            refine p_step rfl (e_assign (v := .sc _) rfl) trivial ?_
            refine p_end (hK33 _ ?_); clear hK33 K33
            refine pwp_ret ?_
            refine ret_seq ?_
            refine end1 (v := .sc _) rfl ?_
            first
              | exact out_b rfl
              | (exfalso; omega)
              | (refine out_b ?_; simp; done)
              | exact absurd hu0.2 (by assumption)
              | exact absurd hu1.2 (by assumption)
              | (exfalso; rw [hu1] at *; omega)
              | (exfalso; rw [hu0.1] at *; omega)
              | (exfalso; rw [hu0.2] at *; simp_all; done)
              | (exfalso; rw [hu1.2] at *; simp_all; done)
              | (refine out_b ?_; simp [hm1]; done)
              | (refine out_b ?_; simp [hm0]; done)
              | (exfalso; simp_all; done)
              | (exfalso; simp_all; omega)
           ·have hb32R := hb32; (try simp only [z1, z2, z3, z4, z5, z6, ne_eq, z7, z8, z9, z10, z11, z12] at hb32); (try (have hsh := shortB_iff hb32)); (try (have hok := stockE_ok hb32)); (try (have hm1 := mo_1 (m := m) hb32)); (try (have hm0 := move_ref (m := m) hb32)); (try (have hu0 := undE_0 hb32)); (try (have hu1 := undE_1 (by assumption) hb32)); (try (have hu2 := undE_2 (by assumption) hb32))
            refine pwp_skip ?_
            refine seq_norm (hK31 _ ?_); clear hK31 K31
            refine pwp_seq_plain rfl fun K34 hK34 => ?_
            refine p_step rfl (e_move (v := .lit _ _ _) rfl) trivial ?_
            refine p_step rfl (e_loadHA (cs := Movement.enc (m)) (n := 6) rfl ((hset_ne (key_ne rfl)).trans ((hset_ne (key_ne rfl)).trans (hset_self _ _ _))) (by kernel_rfl) (by kernel_rfl) (by kernel_rfl) (by exact Nat.zero_lt_one) (by decide) rfl) trivial ?_
            refine p_call rfl (.cons inn_lit (.cons (inn_agg (Movement.pure (m))) .nil)) (MoveS _ _ hsh.2.1 hsh.2.2 (by omega)) ?_
            refine p_step rfl (e_move (v := .tup _) rfl) trivial ?_
            refine p_step rfl (e_ext (v := .lit _ _ _) rfl (by simp) rfl) trivial ?_
            refine p_step rfl (e_ext (v := .sc _) rfl (by simp) rfl) trivial ?_
            refine p_step rfl (e_assign (v := .lit _ _ _) rfl) trivial ?_
            refine p_step rfl (e_assign (v := .sc _) rfl) trivial ?_
            refine p_end (hK34 _ ?_); clear hK34 K34
            refine pwp_seq_seq ?_
            refine pwp_seq_plain rfl fun K35 hK35 => ?_
            refine p_step rfl (e_move (v := .lit _ _ _) rfl) trivial ?_
            refine p_call rfl (.cons inn_lit .nil) (refCheckS _ hsh.2.1 hsh.2.2) ?_
            refine p_step rfl (e_assign (v := .sc _) rfl) trivial ?_
            refine p_end (hK35 _ ?_); clear hK35 K35
            refine pwp_seq_seq ?_
            refine pwp_seq_plain rfl fun K36 hK36 => ?_
            refine p_step rfl (e_move (v := .sc _) rfl) trivial ?_
            refine p_step rfl (e_ne rfl rfl) trivial ?_
            refine p_end (hK36 _ ?_); clear hK36 K36
            refine pwp_seq_cond rfl fun K37 hK37 => ⟨fun hb38 => ?_, fun hb38 => ?_⟩
            ·have hb38R := hb38; (try simp only [z1, z2, z3, z4, z5, z6, ne_eq, z7, z8, z9, z10, z11, z12] at hb38); (try (have hsh := shortB_iff hb38)); (try (have hok := stockE_ok hb38)); (try (have hm1 := mo_1 (m := m) hb38)); (try (have hm0 := move_ref (m := m) hb38)); (try (have hu0 := undE_0 hb38)); (try (have hu1 := undE_1 (by assumption) hb38)); (try (have hu2 := undE_2 (by assumption) hb38))
             refine pwp_seq_gops rfl fun K39 hK39 => ?_
             refine g_begin ?_
             refine g_step rfl rfl rfl rfl (e_move (v := .sc _) rfl) trivial ?_
             refine g_step rfl rfl rfl rfl (e_move (v := .sc _) rfl) trivial ?_
             refine g_step rfl rfl rfl rfl (e_eq rfl rfl) trivial ?_
             refine g_step rfl rfl rfl rfl (e_move (v := .sc _) rfl) trivial ?_
             refine g_cases (fun hb40 => ?_) (fun hb40 => ?_)
             ·have hb40R := hb40; (try simp only [z1, z2, z3, z4, z5, z6, ne_eq, z7, z8, z9, z10, z11, z12] at hb40); (try (have hsh := shortB_iff hb40)); (try (have hok := stockE_ok hb40)); (try (have hm1 := mo_1 (m := m) hb40)); (try (have hm0 := move_ref (m := m) hb40)); (try (have hu0 := undE_0 hb40)); (try (have hu1 := undE_1 (by assumption) hb40)); (try (have hu2 := undE_2 (by assumption) hb40))
              refine g_step rfl rfl rfl rfl (e_move (v := .lit _ _ _) rfl) trivial ?_
              refine g_step rfl rfl rfl rfl (e_len rfl (by kernel_rfl)) trivial ?_
              refine g_step rfl rfl rfl rfl (e_eq rfl rfl) trivial ?_
              refine g_step rfl rfl rfl rfl (e_pickT (v := .sc _) rfl rfl) trivial ?_
              refine g_step rfl rfl rfl rfl (e_assign (v := .sc _) rfl) trivial ?_
              refine g_end (ds := [79, 80, 81]) rfl rfl (hK39 _ ?_); clear hK39 K39
              refine pwp_ret ?_
              refine ret_seq ?_
              refine end1 (v := .sc _) rfl ?_
              first
                | exact out_b rfl
                | (exfalso; omega)
                | (refine out_b ?_; simp; done)
                | exact absurd hu0.2 (by assumption)
                | exact absurd hu1.2 (by assumption)
                | (exfalso; rw [hu1] at *; omega)
                | (exfalso; rw [hu0.1] at *; omega)
                | (exfalso; rw [hu0.2] at *; simp_all; done)
                | (exfalso; rw [hu1.2] at *; simp_all; done)
                | (refine out_b ?_; simp [hm1]; done)
                | (refine out_b ?_; simp [hm0]; done)
                | (exfalso; simp_all; done)
                | (exfalso; simp_all; omega)
             ·have hb40R := hb40; (try simp only [z1, z2, z3, z4, z5, z6, ne_eq, z7, z8, z9, z10, z11, z12] at hb40); (try (have hsh := shortB_iff hb40)); (try (have hok := stockE_ok hb40)); (try (have hm1 := mo_1 (m := m) hb40)); (try (have hm0 := move_ref (m := m) hb40)); (try (have hu0 := undE_0 hb40)); (try (have hu1 := undE_1 (by assumption) hb40)); (try (have hu2 := undE_2 (by assumption) hb40))
              refine g_skip rfl rfl rfl ?_
              refine g_skip rfl rfl rfl ?_
              refine g_skip rfl rfl rfl ?_
              refine g_step rfl rfl rfl rfl (e_pickF (v := .sc _) rfl rfl) trivial ?_
              refine g_step rfl rfl rfl rfl (e_assign (v := .sc _) rfl) trivial ?_
              refine g_end (ds := [79, 80, 81]) rfl rfl (hK39 _ ?_); clear hK39 K39
              refine pwp_ret ?_
              refine ret_seq ?_
              refine end1 (v := .sc _) rfl ?_
              first
                | exact out_b rfl
                | (exfalso; omega)
                | (refine out_b ?_; simp; done)
                | exact absurd hu0.2 (by assumption)
                | exact absurd hu1.2 (by assumption)
                | (exfalso; rw [hu1] at *; omega)
                | (exfalso; rw [hu0.1] at *; omega)
                | (exfalso; rw [hu0.2] at *; simp_all; done)
                | (exfalso; rw [hu1.2] at *; simp_all; done)
                | (refine out_b ?_; simp [hm1]; done)
                | (refine out_b ?_; simp [hm0]; done)
                | (exfalso; simp_all; done)
                | (exfalso; simp_all; omega)
            ·have hb38R := hb38; (try simp only [z1, z2, z3, z4, z5, z6, ne_eq, z7, z8, z9, z10, z11, z12] at hb38); (try (have hsh := shortB_iff hb38)); (try (have hok := stockE_ok hb38)); (try (have hm1 := mo_1 (m := m) hb38)); (try (have hm0 := move_ref (m := m) hb38)); (try (have hu0 := undE_0 hb38)); (try (have hu1 := undE_1 (by assumption) hb38)); (try (have hu2 := undE_2 (by assumption) hb38))
             refine pwp_skip ?_
             refine seq_norm (hK37 _ ?_); clear hK37 K37
             refine pwp_seq_plain rfl fun K41 hK41 => ?_
             refine p_step rfl (e_move (v := .lit _ _ _) rfl) trivial ?_
             refine p_step rfl (e_loadHA (cs := Movement.enc (m)) (n := 6) rfl ((hset_ne (key_ne rfl)).trans ((hset_ne (key_ne rfl)).trans (hset_self _ _ _))) (by kernel_rfl) (by kernel_rfl) (by kernel_rfl) (by exact Nat.zero_lt_one) (by decide) rfl) trivial ?_
             refine p_call rfl (.cons inn_lit (.cons (inn_agg (Movement.pure (m))) .nil)) (refMove _ _ hsh.2.1 (fun y hy => by have := hok.2 y hy; omega) (by omega)) ?_
             refine p_step rfl (e_move (v := .tup _) rfl) trivial ?_
             refine p_step rfl (e_ext (v := .lit _ _ _) rfl (by simp) rfl) trivial ?_
             refine p_step rfl (e_ext (v := .sc _) rfl (by simp) rfl) trivial ?_
             refine p_step rfl (e_assign (v := .lit _ _ _) rfl) trivial ?_
             refine p_step rfl (e_assign (v := .sc _) rfl) trivial ?_
             refine p_end (hK41 _ ?_); clear hK41 K41
             refine pwp_seq_gops rfl fun K42 hK42 => ?_
             refine g_begin ?_
             refine g_step rfl rfl rfl rfl (e_move (v := .sc _) rfl) trivial ?_
             refine g_step rfl rfl rfl rfl (e_move (v := .sc _) rfl) trivial ?_
             refine g_step rfl rfl rfl rfl (e_eq rfl rfl) trivial ?_
             refine g_step rfl rfl rfl rfl (e_move (v := .sc _) rfl) trivial ?_
             refine g_cases (fun hb43 => ?_) (fun hb43 => ?_)
             ·have hb43R := hb43; (try simp only [z1, z2, z3, z4, z5, z6, ne_eq, z7, z8, z9, z10, z11, z12] at hb43); (try (have hsh := shortB_iff hb43)); (try (have hok := stockE_ok hb43)); (try (have hm1 := mo_1 (m := m) hb43)); (try (have hm0 := move_ref (m := m) hb43)); (try (have hu0 := undE_0 hb43)); (try (have hu1 := undE_1 (by assumption) hb43)); (try (have hu2 := undE_2 (by assumption) hb43))
              refine g_step rfl rfl rfl rfl (e_move (v := .lit _ _ _) rfl) trivial ?_
              refine g_step rfl rfl rfl rfl (e_move (v := .lit _ _ _) rfl) trivial ?_
              refine g_call rfl rfl rfl rfl (.cons inn_lit (.cons inn_lit .nil)) (SameStock _ _ (Nat.le_trans (moveR_len xs m) (by decide))) ?_
              refine g_step rfl rfl rfl rfl (e_pickT (v := .sc _) rfl rfl) trivial ?_
              refine g_step rfl rfl rfl rfl (e_assign (v := .sc _) rfl) trivial ?_
              refine g_end (ds := [93, 94, 95]) rfl rfl (hK42 _ ?_); clear hK42 K42
              refine pwp_ret ?_
              refine end1 (v := .sc _) rfl ?_
              first
                | exact out_b rfl
                | (exfalso; omega)
                | (refine out_b ?_; simp; done)
                | exact absurd hu0.2 (by assumption)
                | exact absurd hu1.2 (by assumption)
                | (exfalso; rw [hu1] at *; omega)
                | (exfalso; rw [hu0.1] at *; omega)
                | (exfalso; rw [hu0.2] at *; simp_all; done)
                | (exfalso; rw [hu1.2] at *; simp_all; done)
                | (refine out_b ?_; simp [hm1]; done)
                | (refine out_b ?_; simp [hm0]; done)
                | (exfalso; simp_all; done)
                | (exfalso; simp_all; omega)
             ·have hb43R := hb43; (try simp only [z1, z2, z3, z4, z5, z6, ne_eq, z7, z8, z9, z10, z11, z12] at hb43); (try (have hsh := shortB_iff hb43)); (try (have hok := stockE_ok hb43)); (try (have hm1 := mo_1 (m := m) hb43)); (try (have hm0 := move_ref (m := m) hb43)); (try (have hu0 := undE_0 hb43)); (try (have hu1 := undE_1 (by assumption) hb43)); (try (have hu2 := undE_2 (by assumption) hb43))
              refine g_skip rfl rfl rfl ?_
              refine g_skip rfl rfl rfl ?_
              refine g_nocall rfl rfl rfl ?_
              refine g_step rfl rfl rfl rfl (e_pickF (v := .sc _) rfl rfl) trivial ?_
              refine g_step rfl rfl rfl rfl (e_assign (v := .sc _) rfl) trivial ?_
              refine g_end (ds := [93, 94, 95]) rfl rfl (hK42 _ ?_); clear hK42 K42
              refine pwp_ret ?_
              refine end1 (v := .sc _) rfl ?_
              first
                | exact out_b rfl
                | (exfalso; omega)
                | (refine out_b ?_; simp; done)
                | exact absurd hu0.2 (by assumption)
                | exact absurd hu1.2 (by assumption)
                | (exfalso; rw [hu1] at *; omega)
                | (exfalso; rw [hu0.1] at *; omega)
                | (exfalso; rw [hu0.2] at *; simp_all; done)
                | (exfalso; rw [hu1.2] at *; simp_all; done)
                | (refine out_b ?_; simp [hm1]; done)
                | (refine out_b ?_; simp [hm0]; done)
                | (exfalso; simp_all; done)
                | (exfalso; simp_all; omega)
          ·have hb30R := hb30; (try simp only [z1, z2, z3, z4, z5, z6, ne_eq, z7, z8, z9, z10, z11, z12] at hb30); (try (have hsh := shortB_iff hb30)); (try (have hok := stockE_ok hb30)); (try (have hm1 := mo_1 (m := m) hb30)); (try (have hm0 := move_ref (m := m) hb30)); (try (have hu0 := undE_0 hb30)); (try (have hu1 := undE_1 (by assumption) hb30)); (try (have hu2 := undE_2 (by assumption) hb30))
           refine g_skip rfl rfl rfl ?_
           refine g_skip rfl rfl rfl ?_
           refine g_nocall rfl rfl rfl ?_
           refine g_skip rfl rfl rfl ?_
           refine g_step rfl rfl rfl rfl (e_pickF (v := .sc _) rfl rfl) trivial ?_
           refine g_step rfl rfl rfl rfl (e_pickF (v := .sc _) rfl rfl) trivial ?_
           refine g_end (ds := [47, 48, 49, 50, 51, 52, 53, 56, 57, 58, 59, 60, 61, 62, 63]) (by kernel_rfl) rfl (hK22 _ ?_); clear hK22 K22
           refine pwp_seq_cond (t := false) rfl fun K44 hK44 => ⟨nofun, fun _ => ?_⟩
           refine pwp_skip ?_
           refine seq_norm (hK44 _ ?_); clear hK44 K44
           refine pwp_seq_plain rfl fun K45 hK45 => ?_
           refine p_step rfl (e_move (v := .lit _ _ _) rfl) trivial ?_
           refine p_step rfl (e_loadHA (cs := Movement.enc (m)) (n := 6) rfl ((hset_ne (key_ne rfl)).trans ((hset_ne (key_ne rfl)).trans (hset_self _ _ _))) (by kernel_rfl) (by kernel_rfl) (by kernel_rfl) (by exact Nat.zero_lt_one) (by decide) rfl) trivial ?_
           refine p_call rfl (.cons inn_lit (.cons (inn_agg (Movement.pure (m))) .nil)) (MoveS _ _ hsh.2.1 hsh.2.2 (by omega)) ?_
           refine p_step rfl (e_move (v := .tup _) rfl) trivial ?_
           refine p_step rfl (e_ext (v := .lit _ _ _) rfl (by simp) rfl) trivial ?_
           refine p_step rfl (e_ext (v := .sc _) rfl (by simp) rfl) trivial ?_
           refine p_step rfl (e_assign (v := .lit _ _ _) rfl) trivial ?_
           refine p_step rfl (e_assign (v := .sc _) rfl) trivial ?_
           refine p_end (hK45 _ ?_); clear hK45 K45
           refine pwp_seq_seq ?_
           refine pwp_seq_plain rfl fun K46 hK46 => ?_
           refine p_step rfl (e_move (v := .lit _ _ _) rfl) trivial ?_
           refine p_call rfl (.cons inn_lit .nil) (refCheckS _ hsh.2.1 hsh.2.2) ?_
           refine p_step rfl (e_assign (v := .sc _) rfl) trivial ?_
           refine p_end (hK46 _ ?_); clear hK46 K46
           refine pwp_seq_seq ?_
           refine pwp_seq_plain rfl fun K47 hK47 => ?_
           refine p_step rfl (e_move (v := .sc _) rfl) trivial ?_
           refine p_step rfl (e_ne rfl rfl) trivial ?_
           refine p_end (hK47 _ ?_); clear hK47 K47
           refine pwp_seq_cond rfl fun K48 hK48 => ⟨fun hb49 => ?_, fun hb49 => ?_⟩
           ·have hb49R := hb49; (try simp only [z1, z2, z3, z4, z5, z6, ne_eq, z7, z8, z9, z10, z11, z12] at hb49); (try (have hsh := shortB_iff hb49)); (try (have hok := stockE_ok hb49)); (try (have hm1 := mo_1 (m := m) hb49)); (try (have hm0 := move_ref (m := m) hb49)); (try (have hu0 := undE_0 hb49)); (try (have hu1 := undE_1 (by assumption) hb49)); (try (have hu2 := undE_2 (by assumption) hb49))
            refine pwp_seq_gops rfl fun K50 hK50 => ?_
            refine g_begin ?_
            refine g_step rfl rfl rfl rfl (e_move (v := .sc _) rfl) trivial ?_
            refine g_step rfl rfl rfl rfl (e_move (v := .sc _) rfl) trivial ?_
            refine g_step rfl rfl rfl rfl (e_eq rfl rfl) trivial ?_
            refine g_step rfl rfl rfl rfl (e_move (v := .sc _) rfl) trivial ?_
            refine g_cases (fun hb51 => ?_) (fun hb51 => ?_)
            ·have hb51R := hb51; (try simp only [z1, z2, z3, z4, z5, z6, ne_eq, z7, z8, z9, z10, z11, z12] at hb51); (try (have hsh := shortB_iff hb51)); (try (have hok := stockE_ok hb51)); (try (have hm1 := mo_1 (m := m) hb51)); (try (have hm0 := move_ref (m := m) hb51)); (try (have hu0 := undE_0 hb51)); (try (have hu1 := undE_1 (by assumption) hb51)); (try (have hu2 := undE_2 (by assumption) hb51))
             refine g_step rfl rfl rfl rfl (e_move (v := .lit _ _ _) rfl) trivial ?_
             refine g_step rfl rfl rfl rfl (e_len rfl (by kernel_rfl)) trivial ?_
             refine g_step rfl rfl rfl rfl (e_eq rfl rfl) trivial ?_
             refine g_step rfl rfl rfl rfl (e_pickT (v := .sc _) rfl rfl) trivial ?_
             refine g_step rfl rfl rfl rfl (e_assign (v := .sc _) rfl) trivial ?_
             refine g_end (ds := [79, 80, 81]) rfl rfl (hK50 _ ?_); clear hK50 K50
             refine pwp_ret ?_
             refine ret_seq ?_
             refine end1 (v := .sc _) rfl ?_
             first
               | exact out_b rfl
               | (exfalso; omega)
               | (refine out_b ?_; simp; done)
               | exact absurd hu0.2 (by assumption)
               | exact absurd hu1.2 (by assumption)
               | (exfalso; rw [hu1] at *; omega)
               | (exfalso; rw [hu0.1] at *; omega)
               | (exfalso; rw [hu0.2] at *; simp_all; done)
               | (exfalso; rw [hu1.2] at *; simp_all; done)
               | (refine out_b ?_; simp [hm1]; done)
               | (refine out_b ?_; simp [hm0]; done)
               | (exfalso; simp_all; done)
               | (exfalso; simp_all; omega)
            ·have hb51R := hb51; (try simp only [z1, z2, z3, z4, z5, z6, ne_eq, z7, z8, z9, z10, z11, z12] at hb51); (try (have hsh := shortB_iff hb51)); (try (have hok := stockE_ok hb51)); (try (have hm1 := mo_1 (m := m) hb51)); (try (have hm0 := move_ref (m := m) hb51)); (try (have hu0 := undE_0 hb51)); (try (have hu1 := undE_1 (by assumption) hb51)); (try (have hu2 := undE_2 (by assumption) hb51))
             refine g_skip rfl rfl rfl ?_
             refine g_skip rfl rfl rfl ?_
             refine g_skip rfl rfl rfl ?_
             refine g_step rfl rfl rfl rfl (e_pickF (v := .sc _) rfl rfl) trivial ?_
             refine g_step rfl rfl rfl rfl (e_assign (v := .sc _) rfl) trivial ?_
             refine g_end (ds := [79, 80, 81]) rfl rfl (hK50 _ ?_); clear hK50 K50
             refine pwp_ret ?_
             refine ret_seq ?_
             refine end1 (v := .sc _) rfl ?_
             first
               | exact out_b rfl
               | (exfalso; omega)
               | (refine out_b ?_; simp; done)
               | exact absurd hu0.2 (by assumption)
               | exact absurd hu1.2 (by assumption)
               | (exfalso; rw [hu1] at *; omega)
               | (exfalso; rw [hu0.1] at *; omega)
               | (exfalso; rw [hu0.2] at *; simp_all; done)
               | (exfalso; rw [hu1.2] at *; simp_all; done)
               | (refine out_b ?_; simp [hm1]; done)
               | (refine out_b ?_; simp [hm0]; done)
               | (exfalso; simp_all; done)
               | (exfalso; simp_all; omega)
           ·have hb49R := hb49; (try simp only [z1, z2, z3, z4, z5, z6, ne_eq, z7, z8, z9, z10, z11, z12] at hb49); (try (have hsh := shortB_iff hb49)); (try (have hok := stockE_ok hb49)); (try (have hm1 := mo_1 (m := m) hb49)); (try (have hm0 := move_ref (m := m) hb49)); (try (have hu0 := undE_0 hb49)); (try (have hu1 := undE_1 (by assumption) hb49)); (try (have hu2 := undE_2 (by assumption) hb49))
            refine pwp_skip ?_
            refine seq_norm (hK48 _ ?_); clear hK48 K48
            refine pwp_seq_plain rfl fun K52 hK52 => ?_
            refine p_step rfl (e_move (v := .lit _ _ _) rfl) trivial ?_
            refine p_step rfl (e_loadHA (cs := Movement.enc (m)) (n := 6) rfl ((hset_ne (key_ne rfl)).trans ((hset_ne (key_ne rfl)).trans (hset_self _ _ _))) (by kernel_rfl) (by kernel_rfl) (by kernel_rfl) (by exact Nat.zero_lt_one) (by decide) rfl) trivial ?_
            refine p_call rfl (.cons inn_lit (.cons (inn_agg (Movement.pure (m))) .nil)) (refMove _ _ hsh.2.1 (fun y hy => by have := hok.2 y hy; omega) (by omega)) ?_
            refine p_step rfl (e_move (v := .tup _) rfl) trivial ?_
            refine p_step rfl (e_ext (v := .lit _ _ _) rfl (by simp) rfl) trivial ?_
            refine p_step rfl (e_ext (v := .sc _) rfl (by simp) rfl) trivial ?_
            refine p_step rfl (e_assign (v := .lit _ _ _) rfl) trivial ?_
            refine p_step rfl (e_assign (v := .sc _) rfl) trivial ?_
            refine p_end (hK52 _ ?_); clear hK52 K52
            refine pwp_seq_gops rfl fun K53 hK53 => ?_
            refine g_begin ?_
            refine g_step rfl rfl rfl rfl (e_move (v := .sc _) rfl) trivial ?_
            refine g_step rfl rfl rfl rfl (e_move (v := .sc _) rfl) trivial ?_
            refine g_step rfl rfl rfl rfl (e_eq rfl rfl) trivial ?_
            refine g_step rfl rfl rfl rfl (e_move (v := .sc _) rfl) trivial ?_
            refine g_cases (fun hb54 => ?_) (fun hb54 => ?_)
            ·have hb54R := hb54; (try simp only [z1, z2, z3, z4, z5, z6, ne_eq, z7, z8, z9, z10, z11, z12] at hb54); (try (have hsh := shortB_iff hb54)); (try (have hok := stockE_ok hb54)); (try (have hm1 := mo_1 (m := m) hb54)); (try (have hm0 := move_ref (m := m) hb54)); (try (have hu0 := undE_0 hb54)); (try (have hu1 := undE_1 (by assumption) hb54)); (try (have hu2 := undE_2 (by assumption) hb54))
             refine g_step rfl rfl rfl rfl (e_move (v := .lit _ _ _) rfl) trivial ?_
             refine g_step rfl rfl rfl rfl (e_move (v := .lit _ _ _) rfl) trivial ?_
             refine g_call rfl rfl rfl rfl (.cons inn_lit (.cons inn_lit .nil)) (SameStock _ _ (Nat.le_trans (moveR_len xs m) (by decide))) ?_
             refine g_step rfl rfl rfl rfl (e_pickT (v := .sc _) rfl rfl) trivial ?_
             refine g_step rfl rfl rfl rfl (e_assign (v := .sc _) rfl) trivial ?_
             refine g_end (ds := [93, 94, 95]) rfl rfl (hK53 _ ?_); clear hK53 K53
             refine pwp_ret ?_
             refine end1 (v := .sc _) rfl ?_
             first
               | exact out_b rfl
               | (exfalso; omega)
               | (refine out_b ?_; simp; done)
               | exact absurd hu0.2 (by assumption)
               | exact absurd hu1.2 (by assumption)
               | (exfalso; rw [hu1] at *; omega)
               | (exfalso; rw [hu0.1] at *; omega)
               | (exfalso; rw [hu0.2] at *; simp_all; done)
               | (exfalso; rw [hu1.2] at *; simp_all; done)
               | (refine out_b ?_; simp [hm1]; done)
               | (refine out_b ?_; simp [hm0]; done)
               | (exfalso; simp_all; done)
               | (exfalso; simp_all; omega)
            ·have hb54R := hb54; (try simp only [z1, z2, z3, z4, z5, z6, ne_eq, z7, z8, z9, z10, z11, z12] at hb54); (try (have hsh := shortB_iff hb54)); (try (have hok := stockE_ok hb54)); (try (have hm1 := mo_1 (m := m) hb54)); (try (have hm0 := move_ref (m := m) hb54)); (try (have hu0 := undE_0 hb54)); (try (have hu1 := undE_1 (by assumption) hb54)); (try (have hu2 := undE_2 (by assumption) hb54))
             refine g_skip rfl rfl rfl ?_
             refine g_skip rfl rfl rfl ?_
             refine g_nocall rfl rfl rfl ?_
             refine g_step rfl rfl rfl rfl (e_pickF (v := .sc _) rfl rfl) trivial ?_
             refine g_step rfl rfl rfl rfl (e_assign (v := .sc _) rfl) trivial ?_
             refine g_end (ds := [93, 94, 95]) rfl rfl (hK53 _ ?_); clear hK53 K53
             refine pwp_ret ?_
             refine end1 (v := .sc _) rfl ?_
             first
               | exact out_b rfl
               | (exfalso; omega)
               | (refine out_b ?_; simp; done)
               | exact absurd hu0.2 (by assumption)
               | exact absurd hu1.2 (by assumption)
               | (exfalso; rw [hu1] at *; omega)
               | (exfalso; rw [hu0.1] at *; omega)
               | (exfalso; rw [hu0.2] at *; simp_all; done)
               | (exfalso; rw [hu1.2] at *; simp_all; done)
               | (refine out_b ?_; simp [hm1]; done)
               | (refine out_b ?_; simp [hm0]; done)
               | (exfalso; simp_all; done)
               | (exfalso; simp_all; omega)
        ·have hb26R := hb26; (try simp only [z1, z2, z3, z4, z5, z6, ne_eq, z7, z8, z9, z10, z11, z12] at hb26); (try (have hsh := shortB_iff hb26)); (try (have hok := stockE_ok hb26)); (try (have hm1 := mo_1 (m := m) hb26)); (try (have hm0 := move_ref (m := m) hb26)); (try (have hu0 := undE_0 hb26)); (try (have hu1 := undE_1 (by assumption) hb26)); (try (have hu2 := undE_2 (by assumption) hb26))
         refine g_skip rfl rfl rfl ?_
         refine g_skip rfl rfl rfl ?_
         refine g_skip rfl rfl rfl ?_
         refine g_step rfl rfl rfl rfl (e_pickF (v := .sc _) rfl rfl) trivial ?_
         refine g_step rfl rfl rfl rfl (e_pickF (v := .sc _) rfl rfl) trivial ?_
         refine g_step rfl rfl rfl rfl (e_move (v := .sc _) rfl) trivial ?_
         refine g_step rfl rfl rfl rfl (e_move (v := .sc _) rfl) trivial ?_
         refine g_step rfl rfl rfl rfl (e_eq rfl rfl) trivial ?_
         refine g_step rfl rfl rfl rfl (e_move (v := .sc _) rfl) trivial ?_
         refine g_cases (fun hb55 => ?_) (fun hb55 => ?_)
         ·have hb55R := hb55; (try simp only [z1, z2, z3, z4, z5, z6, ne_eq, z7, z8, z9, z10, z11, z12] at hb55); (try (have hsh := shortB_iff hb55)); (try (have hok := stockE_ok hb55)); (try (have hm1 := mo_1 (m := m) hb55)); (try (have hm0 := move_ref (m := m) hb55)); (try (have hu0 := undE_0 hb55)); (try (have hu1 := undE_1 (by assumption) hb55)); (try (have hu2 := undE_2 (by assumption) hb55))
          refine g_step rfl rfl rfl rfl (e_loadHA (cs := Movement.enc ((undM m))) (n := 6) rfl (hset_self _ _ _) (by kernel_rfl) (by kernel_rfl) (by kernel_rfl) (by exact Nat.zero_lt_one) (by decide) rfl) trivial ?_
          refine g_step rfl rfl rfl rfl (e_loadHA (cs := Movement.enc (m)) (n := 6) rfl ((hset_ne (key_ne rfl)).trans ((hset_ne (key_ne rfl)).trans (hset_self _ _ _))) (by kernel_rfl) (by kernel_rfl) (by kernel_rfl) (by exact Nat.zero_lt_one) (by decide) rfl) trivial ?_
          refine g_call rfl rfl rfl rfl (.cons (inn_agg (Movement.pure (m))) .nil) (Opposite _) ?_
          refine g_step rfl rfl rfl rfl (e_ane rfl rfl (by kernel_rfl) (eqOk_Movement ((undM m)) ((opp m))) (eqV_Movement ((undM m)) ((opp m)))) trivial ?_
          refine g_step rfl rfl rfl rfl (e_pickT (v := .sc _) rfl rfl) trivial ?_
          refine g_step rfl rfl rfl rfl (e_pickF (v := .sc _) rfl rfl) trivial ?_
          refine g_end (ds := [47, 48, 49, 50, 51, 52, 53, 56, 57, 58, 59, 60, 61, 62, 63]) (by kernel_rfl) rfl (hK22 _ ?_); clear hK22 K22
          refine pwp_seq_cond rfl fun K56 hK56 => ⟨fun hb57 => ?_, fun hb57 => ?_⟩
          ·have hb57R := hb57; (try simp only [z1, z2, z3, z4, z5, z6, ne_eq, z7, z8, z9, z10, z11, z12] at hb57); (try (have hsh := shortB_iff hb57)); (try (have hok := stockE_ok hb57)); (try (have hm1 := mo_1 (m := m) hb57)); (try (have hm0 := move_ref (m := m) hb57)); (try (have hu0 := undE_0 hb57)); (try (have hu1 := undE_1 (by assumption) hb57)); (try (have hu2 := undE_2 (by assumption) hb57))
           refine pwp_seq_plain rfl fun K58 hK58 => ?_
           refine p_step rfl (e_assign (v := .sc _) rfl) trivial ?_
           refine p_end (hK58 _ ?_); clear hK58 K58
           refine pwp_ret ?_
           refine ret_seq ?_
           refine end1 (v := .sc _) rfl ?_
           first
             | exact out_b rfl
             | (exfalso; omega)
             | (refine out_b ?_; simp; done)
             | exact absurd hu0.2 (by assumption)
             | exact absurd hu1.2 (by assumption)
             | (exfalso; rw [hu1] at *; omega)
             | (exfalso; rw [hu0.1] at *; omega)
             | (exfalso; rw [hu0.2] at *; simp_all; done)
             | (exfalso; rw [hu1.2] at *; simp_all; done)
             | (refine out_b ?_; simp [hm1]; done)
             | (refine out_b ?_; simp [hm0]; done)
             | (exfalso; simp_all; done)
             | (exfalso; simp_all; omega)
          ·have hb57R := hb57; (try simp only [z1, z2, z3, z4, z5, z6, ne_eq, z7, z8, z9, z10, z11, z12] at hb57); (try (have hsh := shortB_iff hb57)); (try (have hok := stockE_ok hb57)); (try (have hm1 := mo_1 (m := m) hb57)); (try (have hm0 := move_ref (m := m) hb57)); (try (have hu0 := undE_0 hb57)); (try (have hu1 := undE_1 (by assumption) hb57)); (try (have hu2 := undE_2 (by assumption) hb57))
           refine pwp_skip ?_
           refine seq_norm (hK56 _ ?_); clear hK56 K56
           refine pwp_seq_plain rfl fun K59 hK59 => ?_
           refine p_step rfl (e_move (v := .lit _ _ _) rfl) trivial ?_
           refine p_step rfl (e_loadHA (cs := Movement.enc (m)) (n := 6) rfl ((hset_ne (key_ne rfl)).trans ((hset_ne (key_ne rfl)).trans (hset_self _ _ _))) (by kernel_rfl) (by kernel_rfl) (by kernel_rfl) (by exact Nat.zero_lt_one) (by decide) rfl) trivial ?_
           refine p_call rfl (.cons inn_lit (.cons (inn_agg (Movement.pure (m))) .nil)) (MoveS _ _ hsh.2.1 hsh.2.2 (by omega)) ?_
           refine p_step rfl (e_move (v := .tup _) rfl) trivial ?_
           refine p_step rfl (e_ext (v := .lit _ _ _) rfl (by simp) rfl) trivial ?_
           refine p_step rfl (e_ext (v := .sc _) rfl (by simp) rfl) trivial ?_
           refine p_step rfl (e_assign (v := .lit _ _ _) rfl) trivial ?_
           refine p_step rfl (e_assign (v := .sc _) rfl) trivial ?_
           refine p_end (hK59 _ ?_); clear hK59 K59
           refine pwp_seq_seq ?_
           refine pwp_seq_plain rfl fun K60 hK60 => ?_
           refine p_step rfl (e_move (v := .lit _ _ _) rfl) trivial ?_
           refine p_call rfl (.cons inn_lit .nil) (refCheckS _ hsh.2.1 hsh.2.2) ?_
           refine p_step rfl (e_assign (v := .sc _) rfl) trivial ?_
           refine p_end (hK60 _ ?_); clear hK60 K60
           refine pwp_seq_seq ?_
           refine pwp_seq_plain rfl fun K61 hK61 => ?_
           refine p_step rfl (e_move (v := .sc _) rfl) trivial ?_
           refine p_step rfl (e_ne rfl rfl) trivial ?_
           refine p_end (hK61 _ ?_); clear hK61 K61
           refine pwp_seq_cond rfl fun K62 hK62 => ⟨fun hb63 => ?_, fun hb63 => ?_⟩
           ·have hb63R := hb63; (try simp only [z1, z2, z3, z4, z5, z6, ne_eq, z7, z8, z9, z10, z11, z12] at hb63); (try (have hsh := shortB_iff hb63)); (try (have hok := stockE_ok hb63)); (try (have hm1 := mo_1 (m := m) hb63)); (try (have hm0 := move_ref (m := m) hb63)); (try (have hu0 := undE_0 hb63)); (try (have hu1 := undE_1 (by assumption) hb63)); (try (have hu2 := undE_2 (by assumption) hb63))
            refine pwp_seq_gops rfl fun K64 hK64 => ?_
            refine g_begin ?_
            refine g_step rfl rfl rfl rfl (e_move (v := .sc _) rfl) trivial ?_
            refine g_step rfl rfl rfl rfl (e_move (v := .sc _) rfl) trivial ?_
            refine g_step rfl rfl rfl rfl (e_eq rfl rfl) trivial ?_
            refine g_step rfl rfl rfl rfl (e_move (v := .sc _) rfl) trivial ?_
            refine g_cases (fun hb65 => ?_) (fun hb65 => ?_)
            ·have hb65R := hb65; (try simp only [z1, z2, z3, z4, z5, z6, ne_eq, z7, z8, z9, z10, z11, z12] at hb65); (try (have hsh := shortB_iff hb65)); (try (have hok := stockE_ok hb65)); (try (have hm1 := mo_1 (m := m) hb65)); (try (have hm0 := move_ref (m := m) hb65)); (try (have hu0 := undE_0 hb65)); (try (have hu1 := undE_1 (by assumption) hb65)); (try (have hu2 := undE_2 (by assumption) hb65))
             refine g_step rfl rfl rfl rfl (e_move (v := .lit _ _ _) rfl) trivial ?_
             refine g_step rfl rfl rfl rfl (e_len rfl (by kernel_rfl)) trivial ?_
             refine g_step rfl rfl rfl rfl (e_eq rfl rfl) trivial ?_
             refine g_step rfl rfl rfl rfl (e_pickT (v := .sc _) rfl rfl) trivial ?_
             refine g_step rfl rfl rfl rfl (e_assign (v := .sc _) rfl) trivial ?_
             refine g_end (ds := [79, 80, 81]) rfl rfl (hK64 _ ?_); clear hK64 K64
             refine pwp_ret ?_
             refine ret_seq ?_
             refine end1 (v := .sc _) rfl ?_
             first
               | exact out_b rfl
               | (exfalso; omega)
               | (refine out_b ?_; simp; done)
               | exact absurd hu0.2 (by assumption)
               | exact absurd hu1.2 (by assumption)
               | (exfalso; rw [hu1] at *; omega)
               | (exfalso; rw [hu0.1] at *; omega)
               | (exfalso; rw [hu0.2] at *; simp_all; done)
               | (exfalso; rw [hu1.2] at *; simp_all; done)
               | (refine out_b ?_; simp [hm1]; done)
               | (refine out_b ?_; simp [hm0]; done)
               | (exfalso; simp_all; done)
               | (exfalso; simp_all; omega)
            ·have hb65R := hb65; (try simp only [z1, z2, z3, z4, z5, z6, ne_eq, z7, z8, z9, z10, z11, z12] at hb65); (try (have hsh := shortB_iff hb65)); (try (have hok := stockE_ok hb65)); (try (have hm1 := mo_1 (m := m) hb65)); (try (have hm0 := move_ref (m := m) hb65)); (try (have hu0 := undE_0 hb65)); (try (have hu1 := undE_1 (by assumption) hb65)); (try (have hu2 := undE_2 (by assumption) hb65))
             refine g_skip rfl rfl rfl ?_
             refine g_skip rfl rfl rfl ?_
             refine g_skip rfl rfl rfl ?_
             refine g_step rfl rfl rfl rfl (e_pickF (v := .sc _) rfl rfl) trivial ?_
             refine g_step rfl rfl rfl rfl (e_assign (v := .sc _) rfl) trivial ?_
             refine g_end (ds := [79, 80, 81]) rfl rfl (hK64 _ ?_); clear hK64 K64
             refine pwp_ret ?_
             refine ret_seq ?_
             refine end1 (v := .sc _) rfl ?_
             first
               | exact out_b rfl
               | (exfalso; omega)
               | (refine out_b ?_; simp; done)
               | exact absurd hu0.2 (by assumption)
               | exact absurd hu1.2 (by assumption)
               | (exfalso; rw [hu1] at *; omega)
               | (exfalso; rw [hu0.1] at *; omega)
               | (exfalso; rw [hu0.2] at *; simp_all; done)
               | (exfalso; rw [hu1.2] at *; simp_all; done)
               | (refine out_b ?_; simp [hm1]; done)
               | (refine out_b ?_; simp [hm0]; done)
               | (exfalso; simp_all; done)
               | (exfalso; simp_all; omega)
           ·have hb63R := hb63; (try simp only [z1, z2, z3, z4, z5, z6, ne_eq, z7, z8, z9, z10, z11, z12] at hb63); (try (have hsh := shortB_iff hb63)); (try (have hok := stockE_ok hb63)); (try (have hm1 := mo_1 (m := m) hb63)); (try (have hm0 := move_ref (m := m) hb63)); (try (have hu0 := undE_0 hb63)); (try (have hu1 := undE_1 (by assumption) hb63)); (try (have hu2 := undE_2 (by assumption) hb63))
            refine pwp_skip ?_
            refine seq_norm (hK62 _ ?_); clear hK62 K62
            refine pwp_seq_plain rfl fun K66 hK66 => ?_
            refine p_step rfl (e_move (v := .lit _ _ _) rfl) trivial ?_
            refine p_step rfl (e_loadHA (cs := Movement.enc (m)) (n := 6) rfl ((hset_ne (key_ne rfl)).trans ((hset_ne (key_ne rfl)).trans (hset_self _ _ _))) (by kernel_rfl) (by kernel_rfl) (by kernel_rfl) (by exact Nat.zero_lt_one) (by decide) rfl) trivial ?_
            refine p_call rfl (.cons inn_lit (.cons (inn_agg (Movement.pure (m))) .nil)) (refMove _ _ hsh.2.1 (fun y hy => by have := hok.2 y hy; omega) (by omega)) ?_
            refine p_step rfl (e_move (v := .tup _) rfl) trivial ?_
            refine p_step rfl (e_ext (v := .lit _ _ _) rfl (by simp) rfl) trivial ?_
            refine p_step rfl (e_ext (v := .sc _) rfl (by simp) rfl) trivial ?_
            refine p_step rfl (e_assign (v := .lit _ _ _) rfl) trivial ?_
            refine p_step rfl (e_assign (v := .sc _) rfl) trivial ?_
            refine p_end (hK66 _ ?_); clear hK66 K66
            refine pwp_seq_gops rfl fun K67 hK67 => ?_
            refine g_begin ?_
            refine g_step rfl rfl rfl rfl (e_move (v := .sc _) rfl) trivial ?_
            refine g_step rfl rfl rfl rfl (e_move (v := .sc _) rfl) trivial ?_
            refine g_step rfl rfl rfl rfl (e_eq rfl rfl) trivial ?_
            refine g_step rfl rfl rfl rfl (e_move (v := .sc _) rfl) trivial ?_
            refine g_cases (fun hb68 => ?_) (fun hb68 => ?_)
            ·have hb68R := hb68; (try simp only [z1, z2, z3, z4, z5, z6, ne_eq, z7, z8, z9, z10, z11, z12] at hb68); (try (have hsh := shortB_iff hb68)); (try (have hok := stockE_ok hb68)); (try (have hm1 := mo_1 (m := m) hb68)); (try (have hm0 := move_ref (m := m) hb68)); (try (have hu0 := undE_0 hb68)); (try (have hu1 := undE_1 (by assumption) hb68)); (try (have hu2 := undE_2 (by assumption) hb68))
             refine g_step rfl rfl rfl rfl (e_move (v := .lit _ _ _) rfl) trivial ?_
             refine g_step rfl rfl rfl rfl (e_move (v := .lit _ _ _) rfl) trivial ?_
             refine g_call rfl rfl rfl rfl (.cons inn_lit (.cons inn_lit .nil)) (SameStock _ _ (Nat.le_trans (moveR_len xs m) (by decide))) ?_
             refine g_step rfl rfl rfl rfl (e_pickT (v := .sc _) rfl rfl) trivial ?_
             refine g_step rfl rfl rfl rfl (e_assign (v := .sc _) rfl) trivial ?_
             refine g_end (ds := [93, 94, 95]) rfl rfl (hK67 _ ?_); clear hK67 K67
             refine pwp_ret ?_
             refine end1 (v := .sc _) rfl ?_
             first
               | exact out_b rfl
               | (exfalso; omega)
               | (refine out_b ?_; simp; done)
               | exact absurd hu0.2 (by assumption)
               | exact absurd hu1.2 (by assumption)
               | (exfalso; rw [hu1] at *; omega)
               | (exfalso; rw [hu0.1] at *; omega)
               | (exfalso; rw [hu0.2] at *; simp_all; done)
               | (exfalso; rw [hu1.2] at *; simp_all; done)
               | (refine out_b ?_; simp [hm1]; done)
               | (refine out_b ?_; simp [hm0]; done)
               | (exfalso; simp_all; done)
               | (exfalso; simp_all; omega)
            ·have hb68R := hb68; (try simp only [z1, z2, z3, z4, z5, z6, ne_eq, z7, z8, z9, z10, z11, z12] at hb68); (try (have hsh := shortB_iff hb68)); (try (have hok := stockE_ok hb68)); (try (have hm1 := mo_1 (m := m) hb68)); (try (have hm0 := move_ref (m := m) hb68)); (try (have hu0 := undE_0 hb68)); (try (have hu1 := undE_1 (by assumption) hb68)); (try (have hu2 := undE_2 (by assumption) hb68))
             refine g_skip rfl rfl rfl ?_
             refine g_skip rfl rfl rfl ?_
             refine g_nocall rfl rfl rfl ?_
             refine g_step rfl rfl rfl rfl (e_pickF (v := .sc _) rfl rfl) trivial ?_
             refine g_step rfl rfl rfl rfl (e_assign (v := .sc _) rfl) trivial ?_
             refine g_end (ds := [93, 94, 95]) rfl rfl (hK67 _ ?_); clear hK67 K67
             refine pwp_ret ?_
             refine end1 (v := .sc _) rfl ?_
             first
               | exact out_b rfl
               | (exfalso; omega)
               | (refine out_b ?_; simp; done)
               | exact absurd hu0.2 (by assumption)
               | exact absurd hu1.2 (by assumption)
               | (exfalso; rw [hu1] at *; omega)
               | (exfalso; rw [hu0.1] at *; omega)
               | (exfalso; rw [hu0.2] at *; simp_all; done)
               | (exfalso; rw [hu1.2] at *; simp_all; done)
               | (refine out_b ?_; simp [hm1]; done)
               | (refine out_b ?_; simp [hm0]; done)
               | (exfalso; simp_all; done)
               | (exfalso; simp_all; omega)
         ·have hb55R := hb55; (try simp only [z1, z2, z3, z4, z5, z6, ne_eq, z7, z8, z9, z10, z11, z12] at hb55); (try (have hsh := shortB_iff hb55)); (try (have hok := stockE_ok hb55)); (try (have hm1 := mo_1 (m := m) hb55)); (try (have hm0 := move_ref (m := m) hb55)); (try (have hu0 := undE_0 hb55)); (try (have hu1 := undE_1 (by assumption) hb55)); (try (have hu2 := undE_2 (by assumption) hb55))
          refine g_skip rfl rfl rfl ?_
          refine g_skip rfl rfl rfl ?_
          refine g_nocall rfl rfl rfl ?_
          refine g_skip rfl rfl rfl ?_
          refine g_step rfl rfl rfl rfl (e_pickF (v := .sc _) rfl rfl) trivial ?_
          refine g_step rfl rfl rfl rfl (e_pickF (v := .sc _) rfl rfl) trivial ?_
          refine g_end (ds := [47, 48, 49, 50, 51, 52, 53, 56, 57, 58, 59, 60, 61, 62, 63]) (by kernel_rfl) rfl (hK22 _ ?_); clear hK22 K22
          refine pwp_seq_cond (t := false) rfl fun K69 hK69 => ⟨nofun, fun _ => ?_⟩
          refine pwp_skip ?_
          refine seq_norm (hK69 _ ?_); clear hK69 K69
          refine pwp_seq_plain rfl fun K70 hK70 => ?_
          refine p_step rfl (e_move (v := .lit _ _ _) rfl) trivial ?_
          refine p_step rfl (e_loadHA (cs := Movement.enc (m)) (n := 6) rfl ((hset_ne (key_ne rfl)).trans ((hset_ne (key_ne rfl)).trans (hset_self _ _ _))) (by kernel_rfl) (by kernel_rfl) (by kernel_rfl) (by exact Nat.zero_lt_one) (by decide) rfl) trivial ?_
          refine p_call rfl (.cons inn_lit (.cons (inn_agg (Movement.pure (m))) .nil)) (MoveS _ _ hsh.2.1 hsh.2.2 (by omega)) ?_
          refine p_step rfl (e_move (v := .tup _) rfl) trivial ?_
          refine p_step rfl (e_ext (v := .lit _ _ _) rfl (by simp) rfl) trivial ?_
          refine p_step rfl (e_ext (v := .sc _) rfl (by simp) rfl) trivial ?_
          refine p_step rfl (e_assign (v := .lit _ _ _) rfl) trivial ?_
          refine p_step rfl (e_assign (v := .sc _) rfl) trivial ?_
          refine p_end (hK70 _ ?_); clear hK70 K70
          refine pwp_seq_seq ?_
          refine pwp_seq_plain rfl fun K71 hK71 => ?_
          refine p_step rfl (e_move (v := .lit _ _ _) rfl) trivial ?_
          refine p_call rfl (.cons inn_lit .nil) (refCheckS _ hsh.2.1 hsh.2.2) ?_
          refine p_step rfl (e_assign (v := .sc _) rfl) trivial ?_
          refine p_end (hK71 _ ?_); clear hK71 K71
          refine pwp_seq_seq ?_
          refine pwp_seq_plain rfl fun K72 hK72 => ?_
          refine p_step rfl (e_move (v := .sc _) rfl) trivial ?_
          refine p_step rfl (e_ne rfl rfl) trivial ?_
          refine p_end (hK72 _ ?_); clear hK72 K72
          refine pwp_seq_cond rfl fun K73 hK73 => ⟨fun hb74 => ?_, fun hb74 => ?_⟩
          ·have hb74R := hb74; (try simp only [z1, z2, z3, z4, z5, z6, ne_eq, z7, z8, z9, z10, z11, z12] at hb74); (try (have hsh := shortB_iff hb74)); (try (have hok := stockE_ok hb74)); (try (have hm1 := mo_1 (m := m) hb74)); (try (have hm0 := move_ref (m := m) hb74)); (try (have hu0 := undE_0 hb74)); (try (have hu1 := undE_1 (by assumption) hb74)); (try (have hu2 := undE_2 (by assumption) hb74))
           refine pwp_seq_gops rfl fun K75 hK75 => ?_
           refine g_begin ?_
           refine g_step rfl rfl rfl rfl (e_move (v := .sc _) rfl) trivial ?_
           refine g_step rfl rfl rfl rfl (e_move (v := .sc _) rfl) trivial ?_
           refine g_step rfl rfl rfl rfl (e_eq rfl rfl) trivial ?_
           refine g_step rfl rfl rfl rfl (e_move (v := .sc _) rfl) trivial ?_
           refine g_cases (fun hb76 => ?_) (fun hb76 => ?_)
           ·have hb76R := hb76; (try simp only [z1, z2, z3, z4, z5, z6, ne_eq, z7, z8, z9, z10, z11, z12] at hb76); (try (have hsh := shortB_iff hb76)); (try (have hok := stockE_ok hb76)); (try (have hm1 := mo_1 (m := m) hb76)); (try (have hm0 := move_ref (m := m) hb76)); (try (have hu0 := undE_0 hb76)); (try (have hu1 := undE_1 (by assumption) hb76)); (try (have hu2 := undE_2 (by assumption) hb76))
            refine g_step rfl rfl rfl rfl (e_move (v := .lit _ _ _) rfl) trivial ?_
            refine g_step rfl rfl rfl rfl (e_len rfl (by kernel_rfl)) trivial ?_
            refine g_step rfl rfl rfl rfl (e_eq rfl rfl) trivial ?_
            refine g_step rfl rfl rfl rfl (e_pickT (v := .sc _) rfl rfl) trivial ?_
            refine g_step rfl rfl rfl rfl (e_assign (v := .sc _) rfl) trivial ?_
            refine g_end (ds := [79, 80, 81]) rfl rfl (hK75 _ ?_); clear hK75 K75
            refine pwp_ret ?_
            refine ret_seq ?_
            refine end1 (v := .sc _) rfl ?_
            first
              | exact out_b rfl
              | (exfalso; omega)
              | (refine out_b ?_; simp; done)
              | exact absurd hu0.2 (by assumption)
              | exact absurd hu1.2 (by assumption)
              | (exfalso; rw [hu1] at *; omega)
              | (exfalso; rw [hu0.1] at *; omega)
              | (exfalso; rw [hu0.2] at *; simp_all; done)
              | (exfalso; rw [hu1.2] at *; simp_all; done)
              | (refine out_b ?_; simp [hm1]; done)
              | (refine out_b ?_; simp [hm0]; done)
              | (exfalso; simp_all; done)
              | (exfalso; simp_all; omega)
           ·have hb76R := hb76; (try simp only [z1, z2, z3, z4, z5, z6, ne_eq, z7, z8, z9, z10, z11, z12] at hb76); (try (have hsh := shortB_iff hb76)); (try (have hok := stockE_ok hb76)); (try (have hm1 := mo_1 (m := m) hb76)); (try (have hm0 := move_ref (m := m) hb76)); (try (have hu0 := undE_0 hb76)); (try (have hu1 := undE_1 (by assumption) hb76)); (try (have hu2 := undE_2 (by assumption) hb76))
            refine g_skip rfl rfl rfl ?_
            refine g_skip rfl rfl rfl ?_
            refine g_skip rfl rfl rfl ?_
            refine g_step rfl rfl rfl rfl (e_pickF (v := .sc _) rfl rfl) trivial ?_
            refine g_step rfl rfl rfl rfl (e_assign (v := .sc _) rfl) trivial ?_
            refine g_end (ds := [79, 80, 81]) rfl rfl (hK75 _ ?_); clear hK75 K75
            refine pwp_ret ?_
            refine ret_seq ?_
            refine end1 (v := .sc _) rfl ?_
            first
              | exact out_b rfl
              | (exfalso; omega)
              | (refine out_b ?_; simp; done)
              | exact absurd hu0.2 (by assumption)
              | exact absurd hu1.2 (by assumption)
              | (exfalso; rw [hu1] at *; omega)
              | (exfalso; rw [hu0.1] at *; omega)
              | (exfalso; rw [hu0.2] at *; simp_all; done)
              | (exfalso; rw [hu1.2] at *; simp_all; done)
              | (refine out_b ?_; simp [hm1]; done)
              | (refine out_b ?_; simp [hm0]; done)
              | (exfalso; simp_all; done)
              | (exfalso; simp_all; omega)
          ·have hb74R := hb74; (try simp only [z1, z2, z3, z4, z5, z6, ne_eq, z7, z8, z9, z10, z11, z12] at hb74); (try (have hsh := shortB_iff hb74)); (try (have hok := stockE_ok hb74)); (try (have hm1 := mo_1 (m := m) hb74)); (try (have hm0 := move_ref (m := m) hb74)); (try (have hu0 := undE_0 hb74)); (try (have hu1 := undE_1 (by assumption) hb74)); (try (have hu2 := undE_2 (by assumption) hb74))
           refine pwp_skip ?_
           refine seq_norm (hK73 _ ?_); clear hK73 K73
           refine pwp_seq_plain rfl fun K77 hK77 => ?_
           refine p_step rfl (e_move (v := .lit _ _ _) rfl) trivial ?_
           refine p_step rfl (e_loadHA (cs := Movement.enc (m)) (n := 6) rfl ((hset_ne (key_ne rfl)).trans ((hset_ne (key_ne rfl)).trans (hset_self _ _ _))) (by kernel_rfl) (by kernel_rfl) (by kernel_rfl) (by exact Nat.zero_lt_one) (by decide) rfl) trivial ?_
           refine p_call rfl (.cons inn_lit (.cons (inn_agg (Movement.pure (m))) .nil)) (refMove _ _ hsh.2.1 (fun y hy => by have := hok.2 y hy; omega) (by omega)) ?_
           refine p_step rfl (e_move (v := .tup _) rfl) trivial ?_
           refine p_step rfl (e_ext (v := .lit _ _ _) rfl (by simp) rfl) trivial ?_
           refine p_step rfl (e_ext (v := .sc _) rfl (by simp) rfl) trivial ?_
           refine p_step rfl (e_assign (v := .lit _ _ _) rfl) trivial ?_
           refine p_step rfl (e_assign (v := .sc _) rfl) trivial ?_
           refine p_end (hK77 _ ?_); clear hK77 K77
           refine pwp_seq_gops rfl fun K78 hK78 => ?_
           refine g_begin ?_
           refine g_step rfl rfl rfl rfl (e_move (v := .sc _) rfl) trivial ?_
           refine g_step rfl rfl rfl rfl (e_move (v := .sc _) rfl) trivial ?_
           refine g_step rfl rfl rfl rfl (e_eq rfl rfl) trivial ?_
           refine g_step rfl rfl rfl rfl (e_move (v := .sc _) rfl) trivial ?_
           refine g_cases (fun hb79 => ?_) (fun hb79 => ?_)
           ·have hb79R := hb79; (try simp only [z1, z2, z3, z4, z5, z6, ne_eq, z7, z8, z9, z10, z11, z12] at hb79); (try (have hsh := shortB_iff hb79)); (try (have hok := stockE_ok hb79)); (try (have hm1 := mo_1 (m := m) hb79)); (try (have hm0 := move_ref (m := m) hb79)); (try (have hu0 := undE_0 hb79)); (try (have hu1 := undE_1 (by assumption) hb79)); (try (have hu2 := undE_2 (by assumption) hb79))
            refine g_step rfl rfl rfl rfl (e_move (v := .lit _ _ _) rfl) trivial ?_
            refine g_step rfl rfl rfl rfl (e_move (v := .lit _ _ _) rfl) trivial ?_
            refine g_call rfl rfl rfl rfl (.cons inn_lit (.cons inn_lit .nil)) (SameStock _ _ (Nat.le_trans (moveR_len xs m) (by decide))) ?_
            refine g_step rfl rfl rfl rfl (e_pickT (v := .sc _) rfl rfl) trivial ?_
            refine g_step rfl rfl rfl rfl (e_assign (v := .sc _) rfl) trivial ?_
            refine g_end (ds := [93, 94, 95]) rfl rfl (hK78 _ ?_); clear hK78 K78
            refine pwp_ret ?_
            refine end1 (v := .sc _) rfl ?_
            first
              | exact out_b rfl
              | (exfalso; omega)
              | (refine out_b ?_; simp; done)
              | exact absurd hu0.2 (by assumption)
              | exact absurd hu1.2 (by assumption)
              | (exfalso; rw [hu1] at *; omega)
              | (exfalso; rw [hu0.1] at *; omega)
              | (exfalso; rw [hu0.2] at *; simp_all; done)
              | (exfalso; rw [hu1.2] at *; simp_all; done)
              | (refine out_b ?_; simp [hm1]; done)
              | (refine out_b ?_; simp [hm0]; done)
              | (exfalso; simp_all; done)
              | (exfalso; simp_all; omega)
           ·have hb79R := hb79; (try simp only [z1, z2, z3, z4, z5, z6, ne_eq, z7, z8, z9, z10, z11, z12] at hb79); (try (have hsh := shortB_iff hb79)); (try (have hok := stockE_ok hb79)); (try (have hm1 := mo_1 (m := m) hb79)); (try (have hm0 := move_ref (m := m) hb79)); (try (have hu0 := undE_0 hb79)); (try (have hu1 := undE_1 (by assumption) hb79)); (try (have hu2 := undE_2 (by assumption) hb79))
            refine g_skip rfl rfl rfl ?_
            refine g_skip rfl rfl rfl ?_
            refine g_nocall rfl rfl rfl ?_
            refine g_step rfl rfl rfl rfl (e_pickF (v := .sc _) rfl rfl) trivial ?_
            refine g_step rfl rfl rfl rfl (e_assign (v := .sc _) rfl) trivial ?_
            refine g_end (ds := [93, 94, 95]) rfl rfl (hK78 _ ?_); clear hK78 K78
            refine pwp_ret ?_
            refine end1 (v := .sc _) rfl ?_
            first
              | exact out_b rfl
              | (exfalso; omega)
              | (refine out_b ?_; simp; done)
              | exact absurd hu0.2 (by assumption)
              | exact absurd hu1.2 (by assumption)
              | (exfalso; rw [hu1] at *; omega)
              | (exfalso; rw [hu0.1] at *; omega)
              | (exfalso; rw [hu0.2] at *; simp_all; done)
              | (exfalso; rw [hu1.2] at *; simp_all; done)
              | (refine out_b ?_; simp [hm1]; done)
              | (refine out_b ?_; simp [hm0]; done)
              | (exfalso; simp_all; done)
              | (exfalso; simp_all; omega)
      ·have hb20R := hb20; (try simp only [z1, z2, z3, z4, z5, z6, ne_eq, z7, z8, z9, z10, z11, z12] at hb20); (try (have hsh := shortB_iff hb20)); (try (have hok := stockE_ok hb20)); (try (have hm1 := mo_1 (m := m) hb20)); (try (have hm0 := move_ref (m := m) hb20)); (try (have hu0 := undE_0 hb20)); (try (have hu1 := undE_1 (by assumption) hb20)); (try (have hu2 := undE_2 (by assumption) hb20))
       refine pwp_skip ?_
       refine seq_norm (hK19 _ ?_); clear hK19 K19
       refine pwp_seq_seq ?_
       refine pwp_seq_gops rfl fun K80 hK80 => ?_
       refine g_begin ?_
       refine g_step rfl rfl rfl rfl (e_move (v := .sc _) rfl) trivial ?_
       refine g_step rfl rfl rfl rfl (e_move (v := .sc _) rfl) trivial ?_
       refine g_step rfl rfl rfl rfl (e_ne rfl rfl) trivial ?_
       refine g_step rfl rfl rfl rfl (e_move (v := .sc _) rfl) trivial ?_
       refine g_cases (fun hb81 => ?_) (fun hb81 => ?_)
       ·have hb81R := hb81; (try simp only [z1, z2, z3, z4, z5, z6, ne_eq, z7, z8, z9, z10, z11, z12] at hb81); (try (have hsh := shortB_iff hb81)); (try (have hok := stockE_ok hb81)); (try (have hm1 := mo_1 (m := m) hb81)); (try (have hm0 := move_ref (m := m) hb81)); (try (have hu0 := undE_0 hb81)); (try (have hu1 := undE_1 (by assumption) hb81)); (try (have hu2 := undE_2 (by assumption) hb81))
        refine g_skip rfl rfl rfl ?_
        refine g_skip rfl rfl rfl ?_
        refine g_skip rfl rfl rfl ?_
        refine g_skip rfl rfl rfl ?_
        refine g_skip rfl rfl rfl ?_
        refine g_skip rfl rfl rfl ?_
        refine g_skip rfl rfl rfl ?_
        refine g_step rfl rfl rfl rfl (e_pickT (v := .sc _) rfl rfl) trivial ?_
        refine g_step rfl rfl rfl rfl (e_move (v := .sc _) rfl) trivial ?_
        refine g_skip rfl rfl rfl ?_
        refine g_skip rfl rfl rfl ?_
        refine g_skip rfl rfl rfl ?_
        refine g_skip rfl rfl rfl ?_
        refine g_skip rfl rfl rfl ?_
        refine g_nocall rfl rfl rfl ?_
        refine g_skip rfl rfl rfl ?_
        refine g_skip rfl rfl rfl ?_
        refine g_step rfl rfl rfl rfl (e_pickT (v := .sc _) rfl rfl) trivial ?_
        refine g_end (ds := [47, 48, 49, 50, 51, 52, 53, 56, 57, 58, 59, 60, 61, 62, 63]) (by kernel_rfl) rfl (hK80 _ ?_); clear hK80 K80
        refine pwp_seq_cond (t := true) rfl fun K82 hK82 => ⟨fun _ => ?_, nofun⟩
        refine pwp_seq_plain rfl fun K83 hK83 => ?_
        refine p_step rfl (e_assign (v := .sc _) rfl) trivial ?_
        refine p_end (hK83 _ ?_); clear hK83 K83
        refine pwp_ret ?_
        refine ret_seq ?_
        refine end1 (v := .sc _) rfl ?_
        first
          | exact out_b rfl
          | (exfalso; omega)
          | (refine out_b ?_; simp; done)
          | exact absurd hu0.2 (by assumption)
          | exact absurd hu1.2 (by assumption)
          | (exfalso; rw [hu1] at *; omega)
          | (exfalso; rw [hu0.1] at *; omega)
          | (exfalso; rw [hu0.2] at *; simp_all; done)
          | (exfalso; rw [hu1.2] at *; simp_all; done)
          | (refine out_b ?_; simp [hm1]; done)
          | (refine out_b ?_; simp [hm0]; done)
          | (exfalso; simp_all; done)
          | (exfalso; simp_all; omega)
       ·have hb81R := hb81; (try simp only [z1, z2, z3, z4, z5, z6, ne_eq, z7, z8, z9, z10, z11, z12] at hb81); (try (have hsh := shortB_iff hb81)); (try (have hok := stockE_ok hb81)); (try (have hm1 := mo_1 (m := m) hb81)); (try (have hm0 := move_ref (m := m) hb81)); (try (have hu0 := undE_0 hb81)); (try (have hu1 := undE_1 (by assumption) hb81)); (try (have hu2 := undE_2 (by assumption) hb81))
        refine g_step rfl rfl rfl rfl (e_move (v := .sc _) rfl) trivial ?_
        refine g_step rfl rfl rfl rfl (e_ne rfl rfl) trivial ?_
        refine g_step rfl rfl rfl rfl (e_move (v := .sc _) rfl) trivial ?_
        refine g_cases (fun hb84 => ?_) (fun hb84 => ?_)
        ·have hb84R := hb84; (try simp only [z1, z2, z3, z4, z5, z6, ne_eq, z7, z8, z9, z10, z11, z12] at hb84); (try (have hsh := shortB_iff hb84)); (try (have hok := stockE_ok hb84)); (try (have hm1 := mo_1 (m := m) hb84)); (try (have hm0 := move_ref (m := m) hb84)); (try (have hu0 := undE_0 hb84)); (try (have hu1 := undE_1 (by assumption) hb84)); (try (have hu2 := undE_2 (by assumption) hb84))
         refine g_step rfl rfl rfl rfl (e_loadHA (cs := Movement.enc ((undM m))) (n := 6) rfl (hset_self _ _ _) (by kernel_rfl) (by kernel_rfl) (by kernel_rfl) (by exact Nat.zero_lt_one) (by decide) rfl) trivial ?_
         refine g_step rfl rfl rfl rfl (e_build (cs := Movement.enc (⟨(⟨#[]⟩ : ByteArray), 0, 0, 0, 0, 0⟩ : Movement)) (zs := [.str ByteArray.empty, .int 0, .int 0, .int 0, .int 0, .int 0]) (pl := [(0, 1, false), (1, 1, false), (2, 1, false), (3, 1, false), (4, 1, false), (5, 1, false)]) (by kernel_rfl) (by kernel_rfl) (by kernel_rfl) rfl rfl (by exact trivial) rfl) trivial ?_
         refine g_step rfl rfl rfl rfl (e_ane rfl rfl (by kernel_rfl) (eqOk_Movement ((undM m)) ((⟨(⟨#[]⟩ : ByteArray), 0, 0, 0, 0, 0⟩ : Movement))) (eqV_Movement ((undM m)) ((⟨(⟨#[]⟩ : ByteArray), 0, 0, 0, 0, 0⟩ : Movement)))) trivial ?_
         refine g_step rfl rfl rfl rfl (e_pickT (v := .sc _) rfl rfl) trivial ?_
         refine g_step rfl rfl rfl rfl (e_pickF (v := .sc _) rfl rfl) trivial ?_
         refine g_step rfl rfl rfl rfl (e_move (v := .sc _) rfl) trivial ?_
         refine g_cases (fun hb85 => ?_) (fun hb85 => ?_)
         ·have hb85R := hb85; (try simp only [z1, z2, z3, z4, z5, z6, ne_eq, z7, z8, z9, z10, z11, z12] at hb85); (try (have hsh := shortB_iff hb85)); (try (have hok := stockE_ok hb85)); (try (have hm1 := mo_1 (m := m) hb85)); (try (have hm0 := move_ref (m := m) hb85)); (try (have hu0 := undE_0 hb85)); (try (have hu1 := undE_1 (by assumption) hb85)); (try (have hu2 := undE_2 (by assumption) hb85))
          refine g_skip rfl rfl rfl ?_
          refine g_skip rfl rfl rfl ?_
          refine g_skip rfl rfl rfl ?_
          refine g_skip rfl rfl rfl ?_
          refine g_skip rfl rfl rfl ?_
          refine g_nocall rfl rfl rfl ?_
          refine g_skip rfl rfl rfl ?_
          refine g_skip rfl rfl rfl ?_
          refine g_step rfl rfl rfl rfl (e_pickT (v := .sc _) rfl rfl) trivial ?_
          refine g_end (ds := [47, 48, 49, 50, 51, 52, 53, 56, 57, 58, 59, 60, 61, 62, 63]) (by kernel_rfl) rfl (hK80 _ ?_); clear hK80 K80
          refine pwp_seq_cond (t := true) rfl fun K86 hK86 => ⟨fun _ => ?_, nofun⟩
          refine pwp_seq_plain rfl fun K87 hK87 => ?_
          refine p_step rfl (e_assign (v := .sc _) rfl) trivial ?_
          refine p_end (hK87 _ ?_); clear hK87 K87
          refine pwp_ret ?_
          refine ret_seq ?_
          refine end1 (v := .sc _) rfl ?_
          first
            | exact out_b rfl
            | (exfalso; omega)
            | (refine out_b ?_; simp; done)
            | exact absurd hu0.2 (by assumption)
            | exact absurd hu1.2 (by assumption)
            | (exfalso; rw [hu1] at *; omega)
            | (exfalso; rw [hu0.1] at *; omega)
            | (exfalso; rw [hu0.2] at *; simp_all; done)
            | (exfalso; rw [hu1.2] at *; simp_all; done)
            | (refine out_b ?_; simp [hm1]; done)
            | (refine out_b ?_; simp [hm0]; done)
            | (exfalso; simp_all; done)
            | (exfalso; simp_all; omega)
         ·have hb85R := hb85; (try simp only [z1, z2, z3, z4, z5, z6, ne_eq, z7, z8, z9, z10, z11, z12] at hb85); (try (have hsh := shortB_iff hb85)); (try (have hok := stockE_ok hb85)); (try (have hm1 := mo_1 (m := m) hb85)); (try (have hm0 := move_ref (m := m) hb85)); (try (have hu0 := undE_0 hb85)); (try (have hu1 := undE_1 (by assumption) hb85)); (try (have hu2 := undE_2 (by assumption) hb85))
          refine g_step rfl rfl rfl rfl (e_move (v := .sc _) rfl) trivial ?_
          refine g_step rfl rfl rfl rfl (e_eq rfl rfl) trivial ?_
          refine g_step rfl rfl rfl rfl (e_move (v := .sc _) rfl) trivial ?_
          refine g_cases (fun hb88 => ?_) (fun hb88 => ?_)
          ·have hb88R := hb88; (try simp only [z1, z2, z3, z4, z5, z6, ne_eq, z7, z8, z9, z10, z11, z12] at hb88); (try (have hsh := shortB_iff hb88)); (try (have hok := stockE_ok hb88)); (try (have hm1 := mo_1 (m := m) hb88)); (try (have hm0 := move_ref (m := m) hb88)); (try (have hu0 := undE_0 hb88)); (try (have hu1 := undE_1 (by assumption) hb88)); (try (have hu2 := undE_2 (by assumption) hb88))
           refine g_step rfl rfl rfl rfl (e_loadHA (cs := Movement.enc ((undM m))) (n := 6) rfl (hset_self _ _ _) (by kernel_rfl) (by kernel_rfl) (by kernel_rfl) (by exact Nat.zero_lt_one) (by decide) rfl) trivial ?_
           refine g_step rfl rfl rfl rfl (e_loadHA (cs := Movement.enc (m)) (n := 6) rfl ((hset_ne (key_ne rfl)).trans ((hset_ne (key_ne rfl)).trans (hset_self _ _ _))) (by kernel_rfl) (by kernel_rfl) (by kernel_rfl) (by exact Nat.zero_lt_one) (by decide) rfl) trivial ?_
           refine g_call rfl rfl rfl rfl (.cons (inn_agg (Movement.pure (m))) .nil) (Opposite _) ?_
           refine g_step rfl rfl rfl rfl (e_ane rfl rfl (by kernel_rfl) (eqOk_Movement ((undM m)) ((opp m))) (eqV_Movement ((undM m)) ((opp m)))) trivial ?_
           refine g_step rfl rfl rfl rfl (e_pickT (v := .sc _) rfl rfl) trivial ?_
           refine g_step rfl rfl rfl rfl (e_pickF (v := .sc _) rfl rfl) trivial ?_
           refine g_end (ds := [47, 48, 49, 50, 51, 52, 53, 56, 57, 58, 59, 60, 61, 62, 63]) (by kernel_rfl) rfl (hK80 _ ?_); clear hK80 K80
           refine pwp_seq_cond rfl fun K89 hK89 => ⟨fun hb90 => ?_, fun hb90 => ?_⟩
           ·have hb90R := hb90; (try simp only [z1, z2, z3, z4, z5, z6, ne_eq, z7, z8, z9, z10, z11, z12] at hb90); (try (have hsh := shortB_iff hb90)); (try (have hok := stockE_ok hb90)); (try (have hm1 := mo_1 (m := m) hb90)); (try (have hm0 := move_ref (m := m) hb90)); (try (have hu0 := undE_0 hb90)); (try (have hu1 := undE_1 (by assumption) hb90)); (try (have hu2 := undE_2 (by assumption) hb90))
            refine pwp_seq_plain rfl fun K91 hK91 => ?_
            refine p_step rfl (e_assign (v := .sc _) rfl) trivial ?_
            refine p_end (hK91 _ ?_); clear hK91 K91
            refine pwp_ret ?_
            refine ret_seq ?_
            refine end1 (v := .sc _) rfl ?_
            first
              | exact out_b rfl
              | (exfalso; omega)
              | (refine out_b ?_; simp; done)
              | exact absurd hu0.2 (by assumption)
              | exact absurd hu1.2 (by assumption)
              | (exfalso; rw [hu1] at *; omega)
              | (exfalso; rw [hu0.1] at *; omega)
              | (exfalso; rw [hu0.2] at *; simp_all; done)
              | (exfalso; rw [hu1.2] at *; simp_all; done)
              | (refine out_b ?_; simp [hm1]; done)
              | (refine out_b ?_; simp [hm0]; done)
              | (exfalso; simp_all; done)
              | (exfalso; simp_all; omega)
           ·have hb90R := hb90; (try simp only [z1, z2, z3, z4, z5, z6, ne_eq, z7, z8, z9, z10, z11, z12] at hb90); (try (have hsh := shortB_iff hb90)); (try (have hok := stockE_ok hb90)); (try (have hm1 := mo_1 (m := m) hb90)); (try (have hm0 := move_ref (m := m) hb90)); (try (have hu0 := undE_0 hb90)); (try (have hu1 := undE_1 (by assumption) hb90)); (try (have hu2 := undE_2 (by assumption) hb90))
            refine pwp_skip ?_
            refine seq_norm (hK89 _ ?_); clear hK89 K89
            refine pwp_seq_plain rfl fun K92 hK92 => ?_
            refine p_step rfl (e_move (v := .lit _ _ _) rfl) trivial ?_
            refine p_step rfl (e_loadHA (cs := Movement.enc (m)) (n := 6) rfl ((hset_ne (key_ne rfl)).trans ((hset_ne (key_ne rfl)).trans (hset_self _ _ _))) (by kernel_rfl) (by kernel_rfl) (by kernel_rfl) (by exact Nat.zero_lt_one) (by decide) rfl) trivial ?_
            refine p_call rfl (.cons inn_lit (.cons (inn_agg (Movement.pure (m))) .nil)) (MoveS _ _ hsh.2.1 hsh.2.2 (by omega)) ?_
            refine p_step rfl (e_move (v := .tup _) rfl) trivial ?_
            refine p_step rfl (e_ext (v := .lit _ _ _) rfl (by simp) rfl) trivial ?_
            refine p_step rfl (e_ext (v := .sc _) rfl (by simp) rfl) trivial ?_
            refine p_step rfl (e_assign (v := .lit _ _ _) rfl) trivial ?_
            refine p_step rfl (e_assign (v := .sc _) rfl) trivial ?_
            refine p_end (hK92 _ ?_); clear hK92 K92
            refine pwp_seq_seq ?_
            refine pwp_seq_plain rfl fun K93 hK93 => ?_
            refine p_step rfl (e_move (v := .lit _ _ _) rfl) trivial ?_
            refine p_call rfl (.cons inn_lit .nil) (refCheckS _ hsh.2.1 hsh.2.2) ?_
            refine p_step rfl (e_assign (v := .sc _) rfl) trivial ?_
            refine p_end (hK93 _ ?_); clear hK93 K93
            refine pwp_seq_seq ?_
            refine pwp_seq_plain rfl fun K94 hK94 => ?_
            refine p_step rfl (e_move (v := .sc _) rfl) trivial ?_
            refine p_step rfl (e_ne rfl rfl) trivial ?_
            refine p_end (hK94 _ ?_); clear hK94 K94
            refine pwp_seq_cond rfl fun K95 hK95 => ⟨fun hb96 => ?_, fun hb96 => ?_⟩
            ·have hb96R := hb96; (try simp only [z1, z2, z3, z4, z5, z6, ne_eq, z7, z8, z9, z10, z11, z12] at hb96); (try (have hsh := shortB_iff hb96)); (try (have hok := stockE_ok hb96)); (try (have hm1 := mo_1 (m := m) hb96)); (try (have hm0 := move_ref (m := m) hb96)); (try (have hu0 := undE_0 hb96)); (try (have hu1 := undE_1 (by assumption) hb96)); (try (have hu2 := undE_2 (by assumption) hb96))
             refine pwp_seq_gops rfl fun K97 hK97 => ?_
             refine g_begin ?_
             refine g_step rfl rfl rfl rfl (e_move (v := .sc _) rfl) trivial ?_
             refine g_step rfl rfl rfl rfl (e_move (v := .sc _) rfl) trivial ?_
             refine g_step rfl rfl rfl rfl (e_eq rfl rfl) trivial ?_
             refine g_step rfl rfl rfl rfl (e_move (v := .sc _) rfl) trivial ?_
             refine g_cases (fun hb98 => ?_) (fun hb98 => ?_)
             ·have hb98R := hb98; (try simp only [z1, z2, z3, z4, z5, z6, ne_eq, z7, z8, z9, z10, z11, z12] at hb98); (try (have hsh := shortB_iff hb98)); (try (have hok := stockE_ok hb98)); (try (have hm1 := mo_1 (m := m) hb98)); (try (have hm0 := move_ref (m := m) hb98)); (try (have hu0 := undE_0 hb98)); (try (have hu1 := undE_1 (by assumption) hb98)); (try (have hu2 := undE_2 (by assumption) hb98))
              refine g_step rfl rfl rfl rfl (e_move (v := .lit _ _ _) rfl) trivial ?_
              refine g_step rfl rfl rfl rfl (e_len rfl (by kernel_rfl)) trivial ?_
              refine g_step rfl rfl rfl rfl (e_eq rfl rfl) trivial ?_
              refine g_step rfl rfl rfl rfl (e_pickT (v := .sc _) rfl rfl) trivial ?_
              refine g_step rfl rfl rfl rfl (e_assign (v := .sc _) rfl) trivial ?_
              refine g_end (ds := [79, 80, 81]) rfl rfl (hK97 _ ?_); clear hK97 K97
              refine pwp_ret ?_
              refine ret_seq ?_
              refine end1 (v := .sc _) rfl ?_
              first
                | exact out_b rfl
                | (exfalso; omega)
                | (refine out_b ?_; simp; done)
                | exact absurd hu0.2 (by assumption)
                | exact absurd hu1.2 (by assumption)
                | (exfalso; rw [hu1] at *; omega)
                | (exfalso; rw [hu0.1] at *; omega)
                | (exfalso; rw [hu0.2] at *; simp_all; done)
                | (exfalso; rw [hu1.2] at *; simp_all; done)
                | (refine out_b ?_; simp [hm1]; done)
                | (refine out_b ?_; simp [hm0]; done)
                | (exfalso; simp_all; done)
                | (exfalso; simp_all; omega)
             ·have hb98R := hb98; (try simp only [z1, z2, z3, z4, z5, z6, ne_eq, z7, z8, z9, z10, z11, z12] at hb98); (try (have hsh := shortB_iff hb98)); (try (have hok := stockE_ok hb98)); (try (have hm1 := mo_1 (m := m) hb98)); (try (have hm0 := move_ref (m := m) hb98)); (try (have hu0 := undE_0 hb98)); (try (have hu1 := undE_1 (by assumption) hb98)); (try (have hu2 := undE_2 (by assumption) hb98))
              refine g_skip rfl rfl rfl ?_
              refine g_skip rfl rfl rfl ?_
              refine g_skip rfl rfl rfl ?_
              refine g_step rfl rfl rfl rfl (e_pickF (v := .sc _) rfl rfl) trivial ?_
              refine g_step rfl rfl rfl rfl (e_assign (v := .sc _) rfl) trivial ?_
              refine g_end (ds := [79, 80, 81]) rfl rfl (hK97 _ ?_); clear hK97 K97
              refine pwp_ret ?_
              refine ret_seq ?_
              refine end1 (v := .sc _) rfl ?_
              first
                | exact out_b rfl
                | (exfalso; omega)
                | (refine out_b ?_; simp; done)
                | exact absurd hu0.2 (by assumption)
                | exact absurd hu1.2 (by assumption)
                | (exfalso; rw [hu1] at *; omega)
                | (exfalso; rw [hu0.1] at *; omega)
                | (exfalso; rw [hu0.2] at *; simp_all; done)
                | (exfalso; rw [hu1.2] at *; simp_all; done)
                | (refine out_b ?_; simp [hm1]; done)
                | (refine out_b ?_; simp [hm0]; done)
                | (exfalso; simp_all; done)
                | (exfalso; simp_all; omega)
            ·have hb96R := hb96; (try simp only [z1, z2, z3, z4, z5, z6, ne_eq, z7, z8, z9, z10, z11, z12] at hb96); (try (have hsh := shortB_iff hb96)); (try (have hok := stockE_ok hb96)); (try (have hm1 := mo_1 (m := m) hb96)); (try (have hm0 := move_ref (m := m) hb96)); (try (have hu0 := undE_0 hb96)); (try (have hu1 := undE_1 (by assumption) hb96)); (try (have hu2 := undE_2 (by assumption) hb96))
             refine pwp_skip ?_
             refine seq_norm (hK95 _ ?_); clear hK95 K95
             refine pwp_seq_plain rfl fun K99 hK99 => ?_
             refine p_step rfl (e_move (v := .lit _ _ _) rfl) trivial ?_
             refine p_step rfl (e_loadHA (cs := Movement.enc (m)) (n := 6) rfl ((hset_ne (key_ne rfl)).trans ((hset_ne (key_ne rfl)).trans (hset_self _ _ _))) (by kernel_rfl) (by kernel_rfl) (by kernel_rfl) (by exact Nat.zero_lt_one) (by decide) rfl) trivial ?_
             refine p_call rfl (.cons inn_lit (.cons (inn_agg (Movement.pure (m))) .nil)) (refMove _ _ hsh.2.1 (fun y hy => by have := hok.2 y hy; omega) (by omega)) ?_
             refine p_step rfl (e_move (v := .tup _) rfl) trivial ?_
             refine p_step rfl (e_ext (v := .lit _ _ _) rfl (by simp) rfl) trivial ?_
             refine p_step rfl (e_ext (v := .sc _) rfl (by simp) rfl) trivial ?_
             refine p_step rfl (e_assign (v := .lit _ _ _) rfl) trivial ?_
             refine p_step rfl (e_assign (v := .sc _) rfl) trivial ?_
             refine p_end (hK99 _ ?_); clear hK99 K99
             refine pwp_seq_gops rfl fun K100 hK100 => ?_
             refine g_begin ?_
             refine g_step rfl rfl rfl rfl (e_move (v := .sc _) rfl) trivial ?_
             refine g_step rfl rfl rfl rfl (e_move (v := .sc _) rfl) trivial ?_
             refine g_step rfl rfl rfl rfl (e_eq rfl rfl) trivial ?_
             refine g_step rfl rfl rfl rfl (e_move (v := .sc _) rfl) trivial ?_
             refine g_cases (fun hb101 => ?_) (fun hb101 => ?_)
             ·have hb101R := hb101; (try simp only [z1, z2, z3, z4, z5, z6, ne_eq, z7, z8, z9, z10, z11, z12] at hb101); (try (have hsh := shortB_iff hb101)); (try (have hok := stockE_ok hb101)); (try (have hm1 := mo_1 (m := m) hb101)); (try (have hm0 := move_ref (m := m) hb101)); (try (have hu0 := undE_0 hb101)); (try (have hu1 := undE_1 (by assumption) hb101)); (try (have hu2 := undE_2 (by assumption) hb101))
              refine g_step rfl rfl rfl rfl (e_move (v := .lit _ _ _) rfl) trivial ?_
              refine g_step rfl rfl rfl rfl (e_move (v := .lit _ _ _) rfl) trivial ?_
              refine g_call rfl rfl rfl rfl (.cons inn_lit (.cons inn_lit .nil)) (SameStock _ _ (Nat.le_trans (moveR_len xs m) (by decide))) ?_
              refine g_step rfl rfl rfl rfl (e_pickT (v := .sc _) rfl rfl) trivial ?_
              refine g_step rfl rfl rfl rfl (e_assign (v := .sc _) rfl) trivial ?_
              refine g_end (ds := [93, 94, 95]) rfl rfl (hK100 _ ?_); clear hK100 K100
              refine pwp_ret ?_
              refine end1 (v := .sc _) rfl ?_
              first
                | exact out_b rfl
                | (exfalso; omega)
                | (refine out_b ?_; simp; done)
                | exact absurd hu0.2 (by assumption)
                | exact absurd hu1.2 (by assumption)
                | (exfalso; rw [hu1] at *; omega)
                | (exfalso; rw [hu0.1] at *; omega)
                | (exfalso; rw [hu0.2] at *; simp_all; done)
                | (exfalso; rw [hu1.2] at *; simp_all; done)
                | (refine out_b ?_; simp [hm1]; done)
                | (refine out_b ?_; simp [hm0]; done)
                | (exfalso; simp_all; done)
                | (exfalso; simp_all; omega)
             ·have hb101R := hb101; (try simp only [z1, z2, z3, z4, z5, z6, ne_eq, z7, z8, z9, z10, z11, z12] at hb101); (try (have hsh := shortB_iff hb101)); (try (have hok := stockE_ok hb101)); (try (have hm1 := mo_1 (m := m) hb101)); (try (have hm0 := move_ref (m := m) hb101)); (try (have hu0 := undE_0 hb101)); (try (have hu1 := undE_1 (by assumption) hb101)); (try (have hu2 := undE_2 (by assumption) hb101))
              refine g_skip rfl rfl rfl ?_
              refine g_skip rfl rfl rfl ?_
              refine g_nocall rfl rfl rfl ?_
              refine g_step rfl rfl rfl rfl (e_pickF (v := .sc _) rfl rfl) trivial ?_
              refine g_step rfl rfl rfl rfl (e_assign (v := .sc _) rfl) trivial ?_
              refine g_end (ds := [93, 94, 95]) rfl rfl (hK100 _ ?_); clear hK100 K100
              refine pwp_ret ?_
              refine end1 (v := .sc _) rfl ?_
              first
                | exact out_b rfl
                | (exfalso; omega)
                | (refine out_b ?_; simp; done)
                | exact absurd hu0.2 (by assumption)
                | exact absurd hu1.2 (by assumption)
                | (exfalso; rw [hu1] at *; omega)
                | (exfalso; rw [hu0.1] at *; omega)
                | (exfalso; rw [hu0.2] at *; simp_all; done)
                | (exfalso; rw [hu1.2] at *; simp_all; done)
                | (refine out_b ?_; simp [hm1]; done)
                | (refine out_b ?_; simp [hm0]; done)
                | (exfalso; simp_all; done)
                | (exfalso; simp_all; omega)
          ·have hb88R := hb88; (try simp only [z1, z2, z3, z4, z5, z6, ne_eq, z7, z8, z9, z10, z11, z12] at hb88); (try (have hsh := shortB_iff hb88)); (try (have hok := stockE_ok hb88)); (try (have hm1 := mo_1 (m := m) hb88)); (try (have hm0 := move_ref (m := m) hb88)); (try (have hu0 := undE_0 hb88)); (try (have hu1 := undE_1 (by assumption) hb88)); (try (have hu2 := undE_2 (by assumption) hb88))
           refine g_skip rfl rfl rfl ?_
           refine g_skip rfl rfl rfl ?_
           refine g_nocall rfl rfl rfl ?_
           refine g_skip rfl rfl rfl ?_
           refine g_step rfl rfl rfl rfl (e_pickF (v := .sc _) rfl rfl) trivial ?_
           refine g_step rfl rfl rfl rfl (e_pickF (v := .sc _) rfl rfl) trivial ?_
           refine g_end (ds := [47, 48, 49, 50, 51, 52, 53, 56, 57, 58, 59, 60, 61, 62, 63]) (by kernel_rfl) rfl (hK80 _ ?_); clear hK80 K80
           refine pwp_seq_cond (t := false) rfl fun K102 hK102 => ⟨nofun, fun _ => ?_⟩
           refine pwp_skip ?_
           refine seq_norm (hK102 _ ?_); clear hK102 K102
           refine pwp_seq_plain rfl fun K103 hK103 => ?_
           refine p_step rfl (e_move (v := .lit _ _ _) rfl) trivial ?_
           refine p_step rfl (e_loadHA (cs := Movement.enc (m)) (n := 6) rfl ((hset_ne (key_ne rfl)).trans ((hset_ne (key_ne rfl)).trans (hset_self _ _ _))) (by kernel_rfl) (by kernel_rfl) (by kernel_rfl) (by exact Nat.zero_lt_one) (by decide) rfl) trivial ?_
           refine p_call rfl (.cons inn_lit (.cons (inn_agg (Movement.pure (m))) .nil)) (MoveS _ _ hsh.2.1 hsh.2.2 (by omega)) ?_
           refine p_step rfl (e_move (v := .tup _) rfl) trivial ?_
           refine p_step rfl (e_ext (v := .lit _ _ _) rfl (by simp) rfl) trivial ?_
           refine p_step rfl (e_ext (v := .sc _) rfl (by simp) rfl) trivial ?_
           refine p_step rfl (e_assign (v := .lit _ _ _) rfl) trivial ?_
           refine p_step rfl (e_assign (v := .sc _) rfl) trivial ?_
           refine p_end (hK103 _ ?_); clear hK103 K103
           refine pwp_seq_seq ?_
           refine pwp_seq_plain rfl fun K104 hK104 => ?_
           refine p_step rfl (e_move (v := .lit _ _ _) rfl) trivial ?_
           refine p_call rfl (.cons inn_lit .nil) (refCheckS _ hsh.2.1 hsh.2.2) ?_
           refine p_step rfl (e_assign (v := .sc _) rfl) trivial ?_
           refine p_end (hK104 _ ?_); clear hK104 K104
           refine pwp_seq_seq ?_
           refine pwp_seq_plain rfl fun K105 hK105 => ?_
           refine p_step rfl (e_move (v := .sc _) rfl) trivial ?_
           refine p_step rfl (e_ne rfl rfl) trivial ?_
           refine p_end (hK105 _ ?_); clear hK105 K105
           refine pwp_seq_cond rfl fun K106 hK106 => ⟨fun hb107 => ?_, fun hb107 => ?_⟩
           ·have hb107R := hb107; (try simp only [z1, z2, z3, z4, z5, z6, ne_eq, z7, z8, z9, z10, z11, z12] at hb107); (try (have hsh := shortB_iff hb107)); (try (have hok := stockE_ok hb107)); (try (have hm1 := mo_1 (m := m) hb107)); (try (have hm0 := move_ref (m := m) hb107)); (try (have hu0 := undE_0 hb107)); (try (have hu1 := undE_1 (by assumption) hb107)); (try (have hu2 := undE_2 (by assumption) hb107))
            refine pwp_seq_gops rfl fun K108 hK108 => ?_
            refine g_begin ?_
            refine g_step rfl rfl rfl rfl (e_move (v := .sc _) rfl) trivial ?_
            refine g_step rfl rfl rfl rfl (e_move (v := .sc _) rfl) trivial ?_
            refine g_step rfl rfl rfl rfl (e_eq rfl rfl) trivial ?_
            refine g_step rfl rfl rfl rfl (e_move (v := .sc _) rfl) trivial ?_
            refine g_cases (fun hb109 => ?_) (fun hb109 => ?_)
            ·have hb109R := hb109; (try simp only [z1, z2, z3, z4, z5, z6, ne_eq, z7, z8, z9, z10, z11, z12] at hb109); (try (have hsh := shortB_iff hb109)); (try (have hok := stockE_ok hb109)); (try (have hm1 := mo_1 (m := m) hb109)); (try (have hm0 := move_ref (m := m) hb109)); (try (have hu0 := undE_0 hb109)); (try (have hu1 := undE_1 (by assumption) hb109)); (try (have hu2 := undE_2 (by assumption) hb109))
             refine g_step rfl rfl rfl rfl (e_move (v := .lit _ _ _) rfl) trivial ?_
             refine g_step rfl rfl rfl rfl (e_len rfl (by kernel_rfl)) trivial ?_
             refine g_step rfl rfl rfl rfl (e_eq rfl rfl) trivial ?_
             refine g_step rfl rfl rfl rfl (e_pickT (v := .sc _) rfl rfl) trivial ?_
             refine g_step rfl rfl rfl rfl (e_assign (v := .sc _) rfl) trivial ?_
             refine g_end (ds := [79, 80, 81]) rfl rfl (hK108 _ ?_); clear hK108 K108
             refine pwp_ret ?_
             refine ret_seq ?_
             refine end1 (v := .sc _) rfl ?_
             first
               | exact out_b rfl
               | (exfalso; omega)
               | (refine out_b ?_; simp; done)
               | exact absurd hu0.2 (by assumption)
               | exact absurd hu1.2 (by assumption)
               | (exfalso; rw [hu1] at *; omega)
               | (exfalso; rw [hu0.1] at *; omega)
               | (exfalso; rw [hu0.2] at *; simp_all; done)
               | (exfalso; rw [hu1.2] at *; simp_all; done)
               | (refine out_b ?_; simp [hm1]; done)
               | (refine out_b ?_; simp [hm0]; done)
               | (exfalso; simp_all; done)
               | (exfalso; simp_all; omega)
            ·have hb109R := hb109; (try simp only [z1, z2, z3, z4, z5, z6, ne_eq, z7, z8, z9, z10, z11, z12] at hb109); (try (have hsh := shortB_iff hb109)); (try (have hok := stockE_ok hb109)); (try (have hm1 := mo_1 (m := m) hb109)); (try (have hm0 := move_ref (m := m) hb109)); (try (have hu0 := undE_0 hb109)); (try (have hu1 := undE_1 (by assumption) hb109)); (try (have hu2 := undE_2 (by assumption) hb109))
             refine g_skip rfl rfl rfl ?_
             refine g_skip rfl rfl rfl ?_
             refine g_skip rfl rfl rfl ?_
             refine g_step rfl rfl rfl rfl (e_pickF (v := .sc _) rfl rfl) trivial ?_
             refine g_step rfl rfl rfl rfl (e_assign (v := .sc _) rfl) trivial ?_
             refine g_end (ds := [79, 80, 81]) rfl rfl (hK108 _ ?_); clear hK108 K108
             refine pwp_ret ?_
             refine ret_seq ?_
             refine end1 (v := .sc _) rfl ?_
             first
               | exact out_b rfl
               | (exfalso; omega)
               | (refine out_b ?_; simp; done)
               | exact absurd hu0.2 (by assumption)
               | exact absurd hu1.2 (by assumption)
               | (exfalso; rw [hu1] at *; omega)
               | (exfalso; rw [hu0.1] at *; omega)
               | (exfalso; rw [hu0.2] at *; simp_all; done)
               | (exfalso; rw [hu1.2] at *; simp_all; done)
               | (refine out_b ?_; simp [hm1]; done)
               | (refine out_b ?_; simp [hm0]; done)
               | (exfalso; simp_all; done)
               | (exfalso; simp_all; omega)
           ·have hb107R := hb107; (try simp only [z1, z2, z3, z4, z5, z6, ne_eq, z7, z8, z9, z10, z11, z12] at hb107); (try (have hsh := shortB_iff hb107)); (try (have hok := stockE_ok hb107)); (try (have hm1 := mo_1 (m := m) hb107)); (try (have hm0 := move_ref (m := m) hb107)); (try (have hu0 := undE_0 hb107)); (try (have hu1 := undE_1 (by assumption) hb107)); (try (have hu2 := undE_2 (by assumption) hb107))
            refine pwp_skip ?_
            refine seq_norm (hK106 _ ?_); clear hK106 K106
            refine pwp_seq_plain rfl fun K110 hK110 => ?_
            refine p_step rfl (e_move (v := .lit _ _ _) rfl) trivial ?_
            refine p_step rfl (e_loadHA (cs := Movement.enc (m)) (n := 6) rfl ((hset_ne (key_ne rfl)).trans ((hset_ne (key_ne rfl)).trans (hset_self _ _ _))) (by kernel_rfl) (by kernel_rfl) (by kernel_rfl) (by exact Nat.zero_lt_one) (by decide) rfl) trivial ?_
            refine p_call rfl (.cons inn_lit (.cons (inn_agg (Movement.pure (m))) .nil)) (refMove _ _ hsh.2.1 (fun y hy => by have := hok.2 y hy; omega) (by omega)) ?_
            refine p_step rfl (e_move (v := .tup _) rfl) trivial ?_
            refine p_step rfl (e_ext (v := .lit _ _ _) rfl (by simp) rfl) trivial ?_
            refine p_step rfl (e_ext (v := .sc _) rfl (by simp) rfl) trivial ?_
            refine p_step rfl (e_assign (v := .lit _ _ _) rfl) trivial ?_
            refine p_step rfl (e_assign (v := .sc _) rfl) trivial ?_
            refine p_end (hK110 _ ?_); clear hK110 K110
            refine pwp_seq_gops rfl fun K111 hK111 => ?_
            refine g_begin ?_
            refine g_step rfl rfl rfl rfl (e_move (v := .sc _) rfl) trivial ?_
            refine g_step rfl rfl rfl rfl (e_move (v := .sc _) rfl) trivial ?_
            refine g_step rfl rfl rfl rfl (e_eq rfl rfl) trivial ?_
            refine g_step rfl rfl rfl rfl (e_move (v := .sc _) rfl) trivial ?_
            refine g_cases (fun hb112 => ?_) (fun hb112 => ?_)
            ·have hb112R := hb112; (try simp only [z1, z2, z3, z4, z5, z6, ne_eq, z7, z8, z9, z10, z11, z12] at hb112); (try (have hsh := shortB_iff hb112)); (try (have hok := stockE_ok hb112)); (try (have hm1 := mo_1 (m := m) hb112)); (try (have hm0 := move_ref (m := m) hb112)); (try (have hu0 := undE_0 hb112)); (try (have hu1 := undE_1 (by assumption) hb112)); (try (have hu2 := undE_2 (by assumption) hb112))
             refine g_step rfl rfl rfl rfl (e_move (v := .lit _ _ _) rfl) trivial ?_
             refine g_step rfl rfl rfl rfl (e_move (v := .lit _ _ _) rfl) trivial ?_
             refine g_call rfl rfl rfl rfl (.cons inn_lit (.cons inn_lit .nil)) (SameStock _ _ (Nat.le_trans (moveR_len xs m) (by decide))) ?_
             refine g_step rfl rfl rfl rfl (e_pickT (v := .sc _) rfl rfl) trivial ?_
             refine g_step rfl rfl rfl rfl (e_assign (v := .sc _) rfl) trivial ?_
             refine g_end (ds := [93, 94, 95]) rfl rfl (hK111 _ ?_); clear hK111 K111
             refine pwp_ret ?_
             refine end1 (v := .sc _) rfl ?_
             first
               | exact out_b rfl
               | (exfalso; omega)
               | (refine out_b ?_; simp; done)
               | exact absurd hu0.2 (by assumption)
               | exact absurd hu1.2 (by assumption)
               | (exfalso; rw [hu1] at *; omega)
               | (exfalso; rw [hu0.1] at *; omega)
               | (exfalso; rw [hu0.2] at *; simp_all; done)
               | (exfalso; rw [hu1.2] at *; simp_all; done)
               | (refine out_b ?_; simp [hm1]; done)
               | (refine out_b ?_; simp [hm0]; done)
               | (exfalso; simp_all; done)
               | (exfalso; simp_all; omega)
            ·have hb112R := hb112; (try simp only [z1, z2, z3, z4, z5, z6, ne_eq, z7, z8, z9, z10, z11, z12] at hb112); (try (have hsh := shortB_iff hb112)); (try (have hok := stockE_ok hb112)); (try (have hm1 := mo_1 (m := m) hb112)); (try (have hm0 := move_ref (m := m) hb112)); (try (have hu0 := undE_0 hb112)); (try (have hu1 := undE_1 (by assumption) hb112)); (try (have hu2 := undE_2 (by assumption) hb112))
             refine g_skip rfl rfl rfl ?_
             refine g_skip rfl rfl rfl ?_
             refine g_nocall rfl rfl rfl ?_
             refine g_step rfl rfl rfl rfl (e_pickF (v := .sc _) rfl rfl) trivial ?_
             refine g_step rfl rfl rfl rfl (e_assign (v := .sc _) rfl) trivial ?_
             refine g_end (ds := [93, 94, 95]) rfl rfl (hK111 _ ?_); clear hK111 K111
             refine pwp_ret ?_
             refine end1 (v := .sc _) rfl ?_
             first
               | exact out_b rfl
               | (exfalso; omega)
               | (refine out_b ?_; simp; done)
               | exact absurd hu0.2 (by assumption)
               | exact absurd hu1.2 (by assumption)
               | (exfalso; rw [hu1] at *; omega)
               | (exfalso; rw [hu0.1] at *; omega)
               | (exfalso; rw [hu0.2] at *; simp_all; done)
               | (exfalso; rw [hu1.2] at *; simp_all; done)
               | (refine out_b ?_; simp [hm1]; done)
               | (refine out_b ?_; simp [hm0]; done)
               | (exfalso; simp_all; done)
               | (exfalso; simp_all; omega)
        ·have hb84R := hb84; (try simp only [z1, z2, z3, z4, z5, z6, ne_eq, z7, z8, z9, z10, z11, z12] at hb84); (try (have hsh := shortB_iff hb84)); (try (have hok := stockE_ok hb84)); (try (have hm1 := mo_1 (m := m) hb84)); (try (have hm0 := move_ref (m := m) hb84)); (try (have hu0 := undE_0 hb84)); (try (have hu1 := undE_1 (by assumption) hb84)); (try (have hu2 := undE_2 (by assumption) hb84))
         refine g_skip rfl rfl rfl ?_
         refine g_skip rfl rfl rfl ?_
         refine g_skip rfl rfl rfl ?_
         refine g_step rfl rfl rfl rfl (e_pickF (v := .sc _) rfl rfl) trivial ?_
         refine g_step rfl rfl rfl rfl (e_pickF (v := .sc _) rfl rfl) trivial ?_
         refine g_step rfl rfl rfl rfl (e_move (v := .sc _) rfl) trivial ?_
         refine g_step rfl rfl rfl rfl (e_move (v := .sc _) rfl) trivial ?_
         refine g_step rfl rfl rfl rfl (e_eq rfl rfl) trivial ?_
         refine g_step rfl rfl rfl rfl (e_move (v := .sc _) rfl) trivial ?_
         refine g_cases (fun hb113 => ?_) (fun hb113 => ?_)
         ·have hb113R := hb113; (try simp only [z1, z2, z3, z4, z5, z6, ne_eq, z7, z8, z9, z10, z11, z12] at hb113); (try (have hsh := shortB_iff hb113)); (try (have hok := stockE_ok hb113)); (try (have hm1 := mo_1 (m := m) hb113)); (try (have hm0 := move_ref (m := m) hb113)); (try (have hu0 := undE_0 hb113)); (try (have hu1 := undE_1 (by assumption) hb113)); (try (have hu2 := undE_2 (by assumption) hb113))
          refine g_step rfl rfl rfl rfl (e_loadHA (cs := Movement.enc ((undM m))) (n := 6) rfl (hset_self _ _ _) (by kernel_rfl) (by kernel_rfl) (by kernel_rfl) (by exact Nat.zero_lt_one) (by decide) rfl) trivial ?_
          refine g_step rfl rfl rfl rfl (e_loadHA (cs := Movement.enc (m)) (n := 6) rfl ((hset_ne (key_ne rfl)).trans ((hset_ne (key_ne rfl)).trans (hset_self _ _ _))) (by kernel_rfl) (by kernel_rfl) (by kernel_rfl) (by exact Nat.zero_lt_one) (by decide) rfl) trivial ?_
          refine g_call rfl rfl rfl rfl (.cons (inn_agg (Movement.pure (m))) .nil) (Opposite _) ?_
          refine g_step rfl rfl rfl rfl (e_ane rfl rfl (by kernel_rfl) (eqOk_Movement ((undM m)) ((opp m))) (eqV_Movement ((undM m)) ((opp m)))) trivial ?_
          refine g_step rfl rfl rfl rfl (e_pickT (v := .sc _) rfl rfl) trivial ?_
          refine g_step rfl rfl rfl rfl (e_pickF (v := .sc _) rfl rfl) trivial ?_
          refine g_end (ds := [47, 48, 49, 50, 51, 52, 53, 56, 57, 58, 59, 60, 61, 62, 63]) (by kernel_rfl) rfl (hK80 _ ?_); clear hK80 K80
          refine pwp_seq_cond rfl fun K114 hK114 => ⟨fun hb115 => ?_, fun hb115 => ?_⟩
          ·have hb115R := hb115; (try simp only [z1, z2, z3, z4, z5, z6, ne_eq, z7, z8, z9, z10, z11, z12] at hb115); (try (have hsh := shortB_iff hb115)); (try (have hok := stockE_ok hb115)); (try (have hm1 := mo_1 (m := m) hb115)); (try (have hm0 := move_ref (m := m) hb115)); (try (have hu0 := undE_0 hb115)); (try (have hu1 := undE_1 (by assumption) hb115)); (try (have hu2 := undE_2 (by assumption) hb115))
           refine pwp_seq_plain rfl fun K116 hK116 => ?_
           refine p_step rfl (e_assign (v := .sc _) rfl) trivial ?_
           refine p_end (hK116 _ ?_); clear hK116 K116
           refine pwp_ret ?_
           refine ret_seq ?_
           refine end1 (v := .sc _) rfl ?_
           first
             | exact out_b rfl
             | (exfalso; omega)
             | (refine out_b ?_; simp; done)
             | exact absurd hu0.2 (by assumption)
             | exact absurd hu1.2 (by assumption)
             | (exfalso; rw [hu1] at *; omega)
             | (exfalso; rw [hu0.1] at *; omega)
             | (exfalso; rw [hu0.2] at *; simp_all; done)
             | (exfalso; rw [hu1.2] at *; simp_all; done)
             | (refine out_b ?_; simp [hm1]; done)
             | (refine out_b ?_; simp [hm0]; done)
             | (exfalso; simp_all; done)
             | (exfalso; simp_all; omega)
          ·have hb115R := hb115; (try simp only [z1, z2, z3, z4, z5, z6, ne_eq, z7, z8, z9, z10, z11, z12] at hb115); (try (have hsh := shortB_iff hb115)); (try (have hok := stockE_ok hb115)); (try (have hm1 := mo_1 (m := m) hb115)); (try (have hm0 := move_ref (m := m) hb115)); (try (have hu0 := undE_0 hb115)); (try (have hu1 := undE_1 (by assumption) hb115)); (try (have hu2 := undE_2 (by assumption) hb115))
           refine pwp_skip ?_
           refine seq_norm (hK114 _ ?_); clear hK114 K114
           refine pwp_seq_plain rfl fun K117 hK117 => ?_
           refine p_step rfl (e_move (v := .lit _ _ _) rfl) trivial ?_
           refine p_step rfl (e_loadHA (cs := Movement.enc (m)) (n := 6) rfl ((hset_ne (key_ne rfl)).trans ((hset_ne (key_ne rfl)).trans (hset_self _ _ _))) (by kernel_rfl) (by kernel_rfl) (by kernel_rfl) (by exact Nat.zero_lt_one) (by decide) rfl) trivial ?_
           refine p_call rfl (.cons inn_lit (.cons (inn_agg (Movement.pure (m))) .nil)) (MoveS _ _ hsh.2.1 hsh.2.2 (by omega)) ?_
           refine p_step rfl (e_move (v := .tup _) rfl) trivial ?_
           refine p_step rfl (e_ext (v := .lit _ _ _) rfl (by simp) rfl) trivial ?_
           refine p_step rfl (e_ext (v := .sc _) rfl (by simp) rfl) trivial ?_
           refine p_step rfl (e_assign (v := .lit _ _ _) rfl) trivial ?_
           refine p_step rfl (e_assign (v := .sc _) rfl) trivial ?_
           refine p_end (hK117 _ ?_); clear hK117 K117
           refine pwp_seq_seq ?_
           refine pwp_seq_plain rfl fun K118 hK118 => ?_
           refine p_step rfl (e_move (v := .lit _ _ _) rfl) trivial ?_
           refine p_call rfl (.cons inn_lit .nil) (refCheckS _ hsh.2.1 hsh.2.2) ?_
           refine p_step rfl (e_assign (v := .sc _) rfl) trivial ?_
           refine p_end (hK118 _ ?_); clear hK118 K118
           refine pwp_seq_seq ?_
           refine pwp_seq_plain rfl fun K119 hK119 => ?_
           refine p_step rfl (e_move (v := .sc _) rfl) trivial ?_
           refine p_step rfl (e_ne rfl rfl) trivial ?_
           refine p_end (hK119 _ ?_); clear hK119 K119
           refine pwp_seq_cond rfl fun K120 hK120 => ⟨fun hb121 => ?_, fun hb121 => ?_⟩
           ·have hb121R := hb121; (try simp only [z1, z2, z3, z4, z5, z6, ne_eq, z7, z8, z9, z10, z11, z12] at hb121); (try (have hsh := shortB_iff hb121)); (try (have hok := stockE_ok hb121)); (try (have hm1 := mo_1 (m := m) hb121)); (try (have hm0 := move_ref (m := m) hb121)); (try (have hu0 := undE_0 hb121)); (try (have hu1 := undE_1 (by assumption) hb121)); (try (have hu2 := undE_2 (by assumption) hb121))
            refine pwp_seq_gops rfl fun K122 hK122 => ?_
            refine g_begin ?_
            refine g_step rfl rfl rfl rfl (e_move (v := .sc _) rfl) trivial ?_
            refine g_step rfl rfl rfl rfl (e_move (v := .sc _) rfl) trivial ?_
            refine g_step rfl rfl rfl rfl (e_eq rfl rfl) trivial ?_
            refine g_step rfl rfl rfl rfl (e_move (v := .sc _) rfl) trivial ?_
            refine g_cases (fun hb123 => ?_) (fun hb123 => ?_)
            ·have hb123R := hb123; (try simp only [z1, z2, z3, z4, z5, z6, ne_eq, z7, z8, z9, z10, z11, z12] at hb123); (try (have hsh := shortB_iff hb123)); (try (have hok := stockE_ok hb123)); (try (have hm1 := mo_1 (m := m) hb123)); (try (have hm0 := move_ref (m := m) hb123)); (try (have hu0 := undE_0 hb123)); (try (have hu1 := undE_1 (by assumption) hb123)); (try (have hu2 := undE_2 (by assumption) hb123))
             refine g_step rfl rfl rfl rfl (e_move (v := .lit _ _ _) rfl) trivial ?_
             refine g_step rfl rfl rfl rfl (e_len rfl (by kernel_rfl)) trivial ?_
             refine g_step rfl rfl rfl rfl (e_eq rfl rfl) trivial ?_
             refine g_step rfl rfl rfl rfl (e_pickT (v := .sc _) rfl rfl) trivial ?_
             refine g_step rfl rfl rfl rfl (e_assign (v := .sc _) rfl) trivial ?_
             refine g_end (ds := [79, 80, 81]) rfl rfl (hK122 _ ?_); clear hK122 K122
             refine pwp_ret ?_
             refine ret_seq ?_
             refine end1 (v := .sc _) rfl ?_
             first
               | exact out_b rfl
               | (exfalso; omega)
               | (refine out_b ?_; simp; done)
               | exact absurd hu0.2 (by assumption)
               | exact absurd hu1.2 (by assumption)
               | (exfalso; rw [hu1] at *; omega)
               | (exfalso; rw [hu0.1] at *; omega)
               | (exfalso; rw [hu0.2] at *; simp_all; done)
               | (exfalso; rw [hu1.2] at *; simp_all; done)
               | (refine out_b ?_; simp [hm1]; done)
               | (refine out_b ?_; simp [hm0]; done)
               | (exfalso; simp_all; done)
               | (exfalso; simp_all; omega)
            ·have hb123R := hb123; (try simp only [z1, z2, z3, z4, z5, z6, ne_eq, z7, z8, z9, z10, z11, z12] at hb123); (try (have hsh := shortB_iff hb123)); (try (have hok := stockE_ok hb123)); (try (have hm1 := mo_1 (m := m) hb123)); (try (have hm0 := move_ref (m := m) hb123)); (try (have hu0 := undE_0 hb123)); (try (have hu1 := undE_1 (by assumption) hb123)); (try (have hu2 := undE_2 (by assumption) hb123))
             refine g_skip rfl rfl rfl ?_
             refine g_skip rfl rfl rfl ?_
             refine g_skip rfl rfl rfl ?_
             refine g_step rfl rfl rfl rfl (e_pickF (v := .sc _) rfl rfl) trivial ?_
             refine g_step rfl rfl rfl rfl (e_assign (v := .sc _) rfl) trivial ?_
             refine g_end (ds := [79, 80, 81]) rfl rfl (hK122 _ ?_); clear hK122 K122
             refine pwp_ret ?_
             refine ret_seq ?_
             refine end1 (v := .sc _) rfl ?_
             first
               | exact out_b rfl
               | (exfalso; omega)
               | (refine out_b ?_; simp; done)
               | exact absurd hu0.2 (by assumption)
               | exact absurd hu1.2 (by assumption)
               | (exfalso; rw [hu1] at *; omega)
               | (exfalso; rw [hu0.1] at *; omega)
               | (exfalso; rw [hu0.2] at *; simp_all; done)
               | (exfalso; rw [hu1.2] at *; simp_all; done)
               | (refine out_b ?_; simp [hm1]; done)
               | (refine out_b ?_; simp [hm0]; done)
               | (exfalso; simp_all; done)
               | (exfalso; simp_all; omega)
           ·have hb121R := hb121; (try simp only [z1, z2, z3, z4, z5, z6, ne_eq, z7, z8, z9, z10, z11, z12] at hb121); (try (have hsh := shortB_iff hb121)); (try (have hok := stockE_ok hb121)); (try (have hm1 := mo_1 (m := m) hb121)); (try (have hm0 := move_ref (m := m) hb121)); (try (have hu0 := undE_0 hb121)); (try (have hu1 := undE_1 (by assumption) hb121)); (try (have hu2 := undE_2 (by assumption) hb121))
            refine pwp_skip ?_
            refine seq_norm (hK120 _ ?_); clear hK120 K120
            refine pwp_seq_plain rfl fun K124 hK124 => ?_
            refine p_step rfl (e_move (v := .lit _ _ _) rfl) trivial ?_
            refine p_step rfl (e_loadHA (cs := Movement.enc (m)) (n := 6) rfl ((hset_ne (key_ne rfl)).trans ((hset_ne (key_ne rfl)).trans (hset_self _ _ _))) (by kernel_rfl) (by kernel_rfl) (by kernel_rfl) (by exact Nat.zero_lt_one) (by decide) rfl) trivial ?_
            refine p_call rfl (.cons inn_lit (.cons (inn_agg (Movement.pure (m))) .nil)) (refMove _ _ hsh.2.1 (fun y hy => by have := hok.2 y hy; omega) (by omega)) ?_
            refine p_step rfl (e_move (v := .tup _) rfl) trivial ?_
            refine p_step rfl (e_ext (v := .lit _ _ _) rfl (by simp) rfl) trivial ?_
            refine p_step rfl (e_ext (v := .sc _) rfl (by simp) rfl) trivial ?_
            refine p_step rfl (e_assign (v := .lit _ _ _) rfl) trivial ?_
            refine p_step rfl (e_assign (v := .sc _) rfl) trivial ?_
            refine p_end (hK124 _ ?_); clear hK124 K124
            refine pwp_seq_gops rfl fun K125 hK125 => ?_
            refine g_begin ?_
            refine g_step rfl rfl rfl rfl (e_move (v := .sc _) rfl) trivial ?_
            refine g_step rfl rfl rfl rfl (e_move (v := .sc _) rfl) trivial ?_
            refine g_step rfl rfl rfl rfl (e_eq rfl rfl) trivial ?_
            refine g_step rfl rfl rfl rfl (e_move (v := .sc _) rfl) trivial ?_
            refine g_cases (fun hb126 => ?_) (fun hb126 => ?_)
            ·have hb126R := hb126; (try simp only [z1, z2, z3, z4, z5, z6, ne_eq, z7, z8, z9, z10, z11, z12] at hb126); (try (have hsh := shortB_iff hb126)); (try (have hok := stockE_ok hb126)); (try (have hm1 := mo_1 (m := m) hb126)); (try (have hm0 := move_ref (m := m) hb126)); (try (have hu0 := undE_0 hb126)); (try (have hu1 := undE_1 (by assumption) hb126)); (try (have hu2 := undE_2 (by assumption) hb126))
             refine g_step rfl rfl rfl rfl (e_move (v := .lit _ _ _) rfl) trivial ?_
             refine g_step rfl rfl rfl rfl (e_move (v := .lit _ _ _) rfl) trivial ?_
             refine g_call rfl rfl rfl rfl (.cons inn_lit (.cons inn_lit .nil)) (SameStock _ _ (Nat.le_trans (moveR_len xs m) (by decide))) ?_
             refine g_step rfl rfl rfl rfl (e_pickT (v := .sc _) rfl rfl) trivial ?_
             refine g_step rfl rfl rfl rfl (e_assign (v := .sc _) rfl) trivial ?_
             refine g_end (ds := [93, 94, 95]) rfl rfl (hK125 _ ?_); clear hK125 K125
             refine pwp_ret ?_
             refine end1 (v := .sc _) rfl ?_
             first
               | exact out_b rfl
               | (exfalso; omega)
               | (refine out_b ?_; simp; done)
               | exact absurd hu0.2 (by assumption)
               | exact absurd hu1.2 (by assumption)
               | (exfalso; rw [hu1] at *; omega)
               | (exfalso; rw [hu0.1] at *; omega)
               | (exfalso; rw [hu0.2] at *; simp_all; done)
               | (exfalso; rw [hu1.2] at *; simp_all; done)
               | (refine out_b ?_; simp [hm1]; done)
               | (refine out_b ?_; simp [hm0]; done)
               | (exfalso; simp_all; done)
               | (exfalso; simp_all; omega)
            ·have hb126R := hb126; (try simp only [z1, z2, z3, z4, z5, z6, ne_eq, z7, z8, z9, z10, z11, z12] at hb126); (try (have hsh := shortB_iff hb126)); (try (have hok := stockE_ok hb126)); (try (have hm1 := mo_1 (m := m) hb126)); (try (have hm0 := move_ref (m := m) hb126)); (try (have hu0 := undE_0 hb126)); (try (have hu1 := undE_1 (by assumption) hb126)); (try (have hu2 := undE_2 (by assumption) hb126))
             refine g_skip rfl rfl rfl ?_
             refine g_skip rfl rfl rfl ?_
             refine g_nocall rfl rfl rfl ?_
             refine g_step rfl rfl rfl rfl (e_pickF (v := .sc _) rfl rfl) trivial ?_
             refine g_step rfl rfl rfl rfl (e_assign (v := .sc _) rfl) trivial ?_
             refine g_end (ds := [93, 94, 95]) rfl rfl (hK125 _ ?_); clear hK125 K125
             refine pwp_ret ?_
             refine end1 (v := .sc _) rfl ?_
             first
               | exact out_b rfl
               | (exfalso; omega)
               | (refine out_b ?_; simp; done)
               | exact absurd hu0.2 (by assumption)
               | exact absurd hu1.2 (by assumption)
               | (exfalso; rw [hu1] at *; omega)
               | (exfalso; rw [hu0.1] at *; omega)
               | (exfalso; rw [hu0.2] at *; simp_all; done)
               | (exfalso; rw [hu1.2] at *; simp_all; done)
               | (refine out_b ?_; simp [hm1]; done)
               | (refine out_b ?_; simp [hm0]; done)
               | (exfalso; simp_all; done)
               | (exfalso; simp_all; omega)
         ·have hb113R := hb113; (try simp only [z1, z2, z3, z4, z5, z6, ne_eq, z7, z8, z9, z10, z11, z12] at hb113); (try (have hsh := shortB_iff hb113)); (try (have hok := stockE_ok hb113)); (try (have hm1 := mo_1 (m := m) hb113)); (try (have hm0 := move_ref (m := m) hb113)); (try (have hu0 := undE_0 hb113)); (try (have hu1 := undE_1 (by assumption) hb113)); (try (have hu2 := undE_2 (by assumption) hb113))
          refine g_skip rfl rfl rfl ?_
          refine g_skip rfl rfl rfl ?_
          refine g_nocall rfl rfl rfl ?_
          refine g_skip rfl rfl rfl ?_
          refine g_step rfl rfl rfl rfl (e_pickF (v := .sc _) rfl rfl) trivial ?_
          refine g_step rfl rfl rfl rfl (e_pickF (v := .sc _) rfl rfl) trivial ?_
          refine g_end (ds := [47, 48, 49, 50, 51, 52, 53, 56, 57, 58, 59, 60, 61, 62, 63]) (by kernel_rfl) rfl (hK80 _ ?_); clear hK80 K80
          refine pwp_seq_cond (t := false) rfl fun K127 hK127 => ⟨nofun, fun _ => ?_⟩
          refine pwp_skip ?_
          refine seq_norm (hK127 _ ?_); clear hK127 K127
          refine pwp_seq_plain rfl fun K128 hK128 => ?_
          refine p_step rfl (e_move (v := .lit _ _ _) rfl) trivial ?_
          refine p_step rfl (e_loadHA (cs := Movement.enc (m)) (n := 6) rfl ((hset_ne (key_ne rfl)).trans ((hset_ne (key_ne rfl)).trans (hset_self _ _ _))) (by kernel_rfl) (by kernel_rfl) (by kernel_rfl) (by exact Nat.zero_lt_one) (by decide) rfl) trivial ?_
          refine p_call rfl (.cons inn_lit (.cons (inn_agg (Movement.pure (m))) .nil)) (MoveS _ _ hsh.2.1 hsh.2.2 (by omega)) ?_
          refine p_step rfl (e_move (v := .tup _) rfl) trivial ?_
          refine p_step rfl (e_ext (v := .lit _ _ _) rfl (by simp) rfl) trivial ?_
          refine p_step rfl (e_ext (v := .sc _) rfl (by simp) rfl) trivial ?_
          refine p_step rfl (e_assign (v := .lit _ _ _) rfl) trivial ?_
          refine p_step rfl (e_assign (v := .sc _) rfl) trivial ?_
          refine p_end (hK128 _ ?_); clear hK128 K128
          refine pwp_seq_seq ?_
          refine pwp_seq_plain rfl fun K129 hK129 => ?_
          refine p_step rfl (e_move (v := .lit _ _ _) rfl) trivial ?_
          refine p_call rfl (.cons inn_lit .nil) (refCheckS _ hsh.2.1 hsh.2.2) ?_
          refine p_step rfl (e_assign (v := .sc _) rfl) trivial ?_
          refine p_end (hK129 _ ?_); clear hK129 K129
          refine pwp_seq_seq ?_
          refine pwp_seq_plain rfl fun K130 hK130 => ?_
          refine p_step rfl (e_move (v := .sc _) rfl) trivial ?_
          refine p_step rfl (e_ne rfl rfl) trivial ?_
          refine p_end (hK130 _ ?_); clear hK130 K130
          refine pwp_seq_cond rfl fun K131 hK131 => ⟨fun hb132 => ?_, fun hb132 => ?_⟩
          ·have hb132R := hb132; (try simp only [z1, z2, z3, z4, z5, z6, ne_eq, z7, z8, z9, z10, z11, z12] at hb132); (try (have hsh := shortB_iff hb132)); (try (have hok := stockE_ok hb132)); (try (have hm1 := mo_1 (m := m) hb132)); (try (have hm0 := move_ref (m := m) hb132)); (try (have hu0 := undE_0 hb132)); (try (have hu1 := undE_1 (by assumption) hb132)); (try (have hu2 := undE_2 (by assumption) hb132))
           refine pwp_seq_gops rfl fun K133 hK133 => ?_
           refine g_begin ?_
           refine g_step rfl rfl rfl rfl (e_move (v := .sc _) rfl) trivial ?_
           refine g_step rfl rfl rfl rfl (e_move (v := .sc _) rfl) trivial ?_
           refine g_step rfl rfl rfl rfl (e_eq rfl rfl) trivial ?_
           refine g_step rfl rfl rfl rfl (e_move (v := .sc _) rfl) trivial ?_
           refine g_cases (fun hb134 => ?_) (fun hb134 => ?_)
           ·have hb134R := hb134; (try simp only [z1, z2, z3, z4, z5, z6, ne_eq, z7, z8, z9, z10, z11, z12] at hb134); (try (have hsh := shortB_iff hb134)); (try (have hok := stockE_ok hb134)); (try (have hm1 := mo_1 (m := m) hb134)); (try (have hm0 := move_ref (m := m) hb134)); (try (have hu0 := undE_0 hb134)); (try (have hu1 := undE_1 (by assumption) hb134)); (try (have hu2 := undE_2 (by assumption) hb134))
            refine g_step rfl rfl rfl rfl (e_move (v := .lit _ _ _) rfl) trivial ?_
            refine g_step rfl rfl rfl rfl (e_len rfl (by kernel_rfl)) trivial ?_
            refine g_step rfl rfl rfl rfl (e_eq rfl rfl) trivial ?_
            refine g_step rfl rfl rfl rfl (e_pickT (v := .sc _) rfl rfl) trivial ?_
            refine g_step rfl rfl rfl rfl (e_assign (v := .sc _) rfl) trivial ?_
            refine g_end (ds := [79, 80, 81]) rfl rfl (hK133 _ ?_); clear hK133 K133
            refine pwp_ret ?_
            refine ret_seq ?_
            refine end1 (v := .sc _) rfl ?_
            first
              | exact out_b rfl
              | (exfalso; omega)
              | (refine out_b ?_; simp; done)
              | exact absurd hu0.2 (by assumption)
              | exact absurd hu1.2 (by assumption)
              | (exfalso; rw [hu1] at *; omega)
              | (exfalso; rw [hu0.1] at *; omega)
              | (exfalso; rw [hu0.2] at *; simp_all; done)
              | (exfalso; rw [hu1.2] at *; simp_all; done)
              | (refine out_b ?_; simp [hm1]; done)
              | (refine out_b ?_; simp [hm0]; done)
              | (exfalso; simp_all; done)
              | (exfalso; simp_all; omega)
           ·have hb134R := hb134; (try simp only [z1, z2, z3, z4, z5, z6, ne_eq, z7, z8, z9, z10, z11, z12] at hb134); (try (have hsh := shortB_iff hb134)); (try (have hok := stockE_ok hb134)); (try (have hm1 := mo_1 (m := m) hb134)); (try (have hm0 := move_ref (m := m) hb134)); (try (have hu0 := undE_0 hb134)); (try (have hu1 := undE_1 (by assumption) hb134)); (try (have hu2 := undE_2 (by assumption) hb134))
            refine g_skip rfl rfl rfl ?_
            refine g_skip rfl rfl rfl ?_
            refine g_skip rfl rfl rfl ?_
            refine g_step rfl rfl rfl rfl (e_pickF (v := .sc _) rfl rfl) trivial ?_
            refine g_step rfl rfl rfl rfl (e_assign (v := .sc _) rfl) trivial ?_
            refine g_end (ds := [79, 80, 81]) rfl rfl (hK133 _ ?_); clear hK133 K133
            refine pwp_ret ?_
            refine ret_seq ?_
            refine end1 (v := .sc _) rfl ?_
            first
              | exact out_b rfl
              | (exfalso; omega)
              | (refine out_b ?_; simp; done)
              | exact absurd hu0.2 (by assumption)
              | exact absurd hu1.2 (by assumption)
              | (exfalso; rw [hu1] at *; omega)
              | (exfalso; rw [hu0.1] at *; omega)
              | (exfalso; rw [hu0.2] at *; simp_all; done)
              | (exfalso; rw [hu1.2] at *; simp_all; done)
              | (refine out_b ?_; simp [hm1]; done)
              | (refine out_b ?_; simp [hm0]; done)
              | (exfalso; simp_all; done)
              | (exfalso; simp_all; omega)
          ·have hb132R := hb132; (try simp only [z1, z2, z3, z4, z5, z6, ne_eq, z7, z8, z9, z10, z11, z12] at hb132); (try (have hsh := shortB_iff hb132)); (try (have hok := stockE_ok hb132)); (try (have hm1 := mo_1 (m := m) hb132)); (try (have hm0 := move_ref (m := m) hb132)); (try (have hu0 := undE_0 hb132)); (try (have hu1 := undE_1 (by assumption) hb132)); (try (have hu2 := undE_2 (by assumption) hb132))
           refine pwp_skip ?_
           refine seq_norm (hK131 _ ?_); clear hK131 K131
           refine pwp_seq_plain rfl fun K135 hK135 => ?_
           refine p_step rfl (e_move (v := .lit _ _ _) rfl) trivial ?_
           refine p_step rfl (e_loadHA (cs := Movement.enc (m)) (n := 6) rfl ((hset_ne (key_ne rfl)).trans ((hset_ne (key_ne rfl)).trans (hset_self _ _ _))) (by kernel_rfl) (by kernel_rfl) (by kernel_rfl) (by exact Nat.zero_lt_one) (by decide) rfl) trivial ?_
           refine p_call rfl (.cons inn_lit (.cons (inn_agg (Movement.pure (m))) .nil)) (refMove _ _ hsh.2.1 (fun y hy => by have := hok.2 y hy; omega) (by omega)) ?_
           refine p_step rfl (e_move (v := .tup _) rfl) trivial ?_
           refine p_step rfl (e_ext (v := .lit _ _ _) rfl (by simp) rfl) trivial ?_
           refine p_step rfl (e_ext (v := .sc _) rfl (by simp) rfl) trivial ?_
           refine p_step rfl (e_assign (v := .lit _ _ _) rfl) trivial ?_
           refine p_step rfl (e_assign (v := .sc _) rfl) trivial ?_
           refine p_end (hK135 _ ?_); clear hK135 K135
           refine pwp_seq_gops rfl fun K136 hK136 => ?_
           refine g_begin ?_
           refine g_step rfl rfl rfl rfl (e_move (v := .sc _) rfl) trivial ?_
           refine g_step rfl rfl rfl rfl (e_move (v := .sc _) rfl) trivial ?_
           refine g_step rfl rfl rfl rfl (e_eq rfl rfl) trivial ?_
           refine g_step rfl rfl rfl rfl (e_move (v := .sc _) rfl) trivial ?_
           refine g_cases (fun hb137 => ?_) (fun hb137 => ?_)
           ·have hb137R := hb137; (try simp only [z1, z2, z3, z4, z5, z6, ne_eq, z7, z8, z9, z10, z11, z12] at hb137); (try (have hsh := shortB_iff hb137)); (try (have hok := stockE_ok hb137)); (try (have hm1 := mo_1 (m := m) hb137)); (try (have hm0 := move_ref (m := m) hb137)); (try (have hu0 := undE_0 hb137)); (try (have hu1 := undE_1 (by assumption) hb137)); (try (have hu2 := undE_2 (by assumption) hb137))
            refine g_step rfl rfl rfl rfl (e_move (v := .lit _ _ _) rfl) trivial ?_
            refine g_step rfl rfl rfl rfl (e_move (v := .lit _ _ _) rfl) trivial ?_
            refine g_call rfl rfl rfl rfl (.cons inn_lit (.cons inn_lit .nil)) (SameStock _ _ (Nat.le_trans (moveR_len xs m) (by decide))) ?_
            refine g_step rfl rfl rfl rfl (e_pickT (v := .sc _) rfl rfl) trivial ?_
            refine g_step rfl rfl rfl rfl (e_assign (v := .sc _) rfl) trivial ?_
            refine g_end (ds := [93, 94, 95]) rfl rfl (hK136 _ ?_); clear hK136 K136
            refine pwp_ret ?_
            refine end1 (v := .sc _) rfl ?_
            first
              | exact out_b rfl
              | (exfalso; omega)
              | (refine out_b ?_; simp; done)
              | exact absurd hu0.2 (by assumption)
              | exact absurd hu1.2 (by assumption)
              | (exfalso; rw [hu1] at *; omega)
              | (exfalso; rw [hu0.1] at *; omega)
              | (exfalso; rw [hu0.2] at *; simp_all; done)
              | (exfalso; rw [hu1.2] at *; simp_all; done)
              | (refine out_b ?_; simp [hm1]; done)
              | (refine out_b ?_; simp [hm0]; done)
              | (exfalso; simp_all; done)
              | (exfalso; simp_all; omega)
           ·have hb137R := hb137; (try simp only [z1, z2, z3, z4, z5, z6, ne_eq, z7, z8, z9, z10, z11, z12] at hb137); (try (have hsh := shortB_iff hb137)); (try (have hok := stockE_ok hb137)); (try (have hm1 := mo_1 (m := m) hb137)); (try (have hm0 := move_ref (m := m) hb137)); (try (have hu0 := undE_0 hb137)); (try (have hu1 := undE_1 (by assumption) hb137)); (try (have hu2 := undE_2 (by assumption) hb137))
            refine g_skip rfl rfl rfl ?_
            refine g_skip rfl rfl rfl ?_
            refine g_nocall rfl rfl rfl ?_
            refine g_step rfl rfl rfl rfl (e_pickF (v := .sc _) rfl rfl) trivial ?_
            refine g_step rfl rfl rfl rfl (e_assign (v := .sc _) rfl) trivial ?_
            refine g_end (ds := [93, 94, 95]) rfl rfl (hK136 _ ?_); clear hK136 K136
            refine pwp_ret ?_
            refine end1 (v := .sc _) rfl ?_
            first
              | exact out_b rfl
              | (exfalso; omega)
              | (refine out_b ?_; simp; done)
              | exact absurd hu0.2 (by assumption)
              | exact absurd hu1.2 (by assumption)
              | (exfalso; rw [hu1] at *; omega)
              | (exfalso; rw [hu0.1] at *; omega)
              | (exfalso; rw [hu0.2] at *; simp_all; done)
              | (exfalso; rw [hu1.2] at *; simp_all; done)
              | (refine out_b ?_; simp [hm1]; done)
              | (refine out_b ?_; simp [hm0]; done)
              | (exfalso; simp_all; done)
              | (exfalso; simp_all; omega)
     ·have hb18R := hb18; (try simp only [z1, z2, z3, z4, z5, z6, ne_eq, z7, z8, z9, z10, z11, z12] at hb18); (try (have hsh := shortB_iff hb18)); (try (have hok := stockE_ok hb18)); (try (have hm1 := mo_1 (m := m) hb18)); (try (have hm0 := move_ref (m := m) hb18)); (try (have hu0 := undE_0 hb18)); (try (have hu1 := undE_1 (by assumption) hb18)); (try (have hu2 := undE_2 (by assumption) hb18))
      refine g_skip rfl rfl rfl ?_
      refine g_nocall rfl rfl rfl ?_
      refine g_nocall rfl rfl rfl ?_
      refine g_skip rfl rfl rfl ?_
      refine g_step rfl rfl rfl rfl (e_pickF (v := .sc _) rfl rfl) trivial ?_
      refine g_end (ds := [38, 39, 40, 41]) rfl rfl (hK17 _ ?_); clear hK17 K17
      refine pwp_seq_cond (t := false) rfl fun K138 hK138 => ⟨nofun, fun _ => ?_⟩
      refine pwp_skip ?_
      refine seq_norm (hK138 _ ?_); clear hK138 K138
      refine pwp_seq_seq ?_
      refine pwp_seq_gops rfl fun K139 hK139 => ?_
      refine g_begin ?_
      refine g_step rfl rfl rfl rfl (e_move (v := .sc _) rfl) trivial ?_
      refine g_step rfl rfl rfl rfl (e_move (v := .sc _) rfl) trivial ?_
      refine g_step rfl rfl rfl rfl (e_ne rfl rfl) trivial ?_
      refine g_step rfl rfl rfl rfl (e_move (v := .sc _) rfl) trivial ?_
      refine g_cases (fun hb140 => ?_) (fun hb140 => ?_)
      ·have hb140R := hb140; (try simp only [z1, z2, z3, z4, z5, z6, ne_eq, z7, z8, z9, z10, z11, z12] at hb140); (try (have hsh := shortB_iff hb140)); (try (have hok := stockE_ok hb140)); (try (have hm1 := mo_1 (m := m) hb140)); (try (have hm0 := move_ref (m := m) hb140)); (try (have hu0 := undE_0 hb140)); (try (have hu1 := undE_1 (by assumption) hb140)); (try (have hu2 := undE_2 (by assumption) hb140))
       refine g_skip rfl rfl rfl ?_
       refine g_skip rfl rfl rfl ?_
       refine g_skip rfl rfl rfl ?_
       refine g_skip rfl rfl rfl ?_
       refine g_skip rfl rfl rfl ?_
       refine g_skip rfl rfl rfl ?_
       refine g_skip rfl rfl rfl ?_
       refine g_step rfl rfl rfl rfl (e_pickT (v := .sc _) rfl rfl) trivial ?_
       refine g_step rfl rfl rfl rfl (e_move (v := .sc _) rfl) trivial ?_
       refine g_skip rfl rfl rfl ?_
       refine g_skip rfl rfl rfl ?_
       refine g_skip rfl rfl rfl ?_
       refine g_skip rfl rfl rfl ?_
       refine g_skip rfl rfl rfl ?_
       refine g_nocall rfl rfl rfl ?_
       refine g_skip rfl rfl rfl ?_
       refine g_skip rfl rfl rfl ?_
       refine g_step rfl rfl rfl rfl (e_pickT (v := .sc _) rfl rfl) trivial ?_
       refine g_end (ds := [47, 48, 49, 50, 51, 52, 53, 56, 57, 58, 59, 60, 61, 62, 63]) (by kernel_rfl) rfl (hK139 _ ?_); clear hK139 K139
       refine pwp_seq_cond (t := true) rfl fun K141 hK141 => ⟨fun _ => ?_, nofun⟩
       refine pwp_seq_plain rfl fun K142 hK142 => ?_
       refine p_step rfl (e_assign (v := .sc _) rfl) trivial ?_
       refine p_end (hK142 _ ?_); clear hK142 K142
       refine pwp_ret ?_
       refine ret_seq ?_
       refine end1 (v := .sc _) rfl ?_
       first
         | exact out_b rfl
         | (exfalso; omega)
         | (refine out_b ?_; simp; done)
         | exact absurd hu0.2 (by assumption)
         | exact absurd hu1.2 (by assumption)
         | (exfalso; rw [hu1] at *; omega)
         | (exfalso; rw [hu0.1] at *; omega)
         | (exfalso; rw [hu0.2] at *; simp_all; done)
         | (exfalso; rw [hu1.2] at *; simp_all; done)
         | (refine out_b ?_; simp [hm1]; done)
         | (refine out_b ?_; simp [hm0]; done)
         | (exfalso; simp_all; done)
         | (exfalso; simp_all; omega)
      ·have hb140R := hb140; (try simp only [z1, z2, z3, z4, z5, z6, ne_eq, z7, z8, z9, z10, z11, z12] at hb140); (try (have hsh := shortB_iff hb140)); (try (have hok := stockE_ok hb140)); (try (have hm1 := mo_1 (m := m) hb140)); (try (have hm0 := move_ref (m := m) hb140)); (try (have hu0 := undE_0 hb140)); (try (have hu1 := undE_1 (by assumption) hb140)); (try (have hu2 := undE_2 (by assumption) hb140))
       refine g_step rfl rfl rfl rfl (e_move (v := .sc _) rfl) trivial ?_
       refine g_step rfl rfl rfl rfl (e_ne rfl rfl) trivial ?_
       refine g_step rfl rfl rfl rfl (e_move (v := .sc _) rfl) trivial ?_
       refine g_cases (fun hb143 => ?_) (fun hb143 => ?_)
       ·have hb143R := hb143; (try simp only [z1, z2, z3, z4, z5, z6, ne_eq, z7, z8, z9, z10, z11, z12] at hb143); (try (have hsh := shortB_iff hb143)); (try (have hok := stockE_ok hb143)); (try (have hm1 := mo_1 (m := m) hb143)); (try (have hm0 := move_ref (m := m) hb143)); (try (have hu0 := undE_0 hb143)); (try (have hu1 := undE_1 (by assumption) hb143)); (try (have hu2 := undE_2 (by assumption) hb143))
        refine g_step rfl rfl rfl rfl (e_loadHA (cs := Movement.enc ((undM m))) (n := 6) rfl (hset_self _ _ _) (by kernel_rfl) (by kernel_rfl) (by kernel_rfl) (by exact Nat.zero_lt_one) (by decide) rfl) trivial ?_
        refine g_step rfl rfl rfl rfl (e_build (cs := Movement.enc (⟨(⟨#[]⟩ : ByteArray), 0, 0, 0, 0, 0⟩ : Movement)) (zs := [.str ByteArray.empty, .int 0, .int 0, .int 0, .int 0, .int 0]) (pl := [(0, 1, false), (1, 1, false), (2, 1, false), (3, 1, false), (4, 1, false), (5, 1, false)]) (by kernel_rfl) (by kernel_rfl) (by kernel_rfl) rfl rfl (by exact trivial) rfl) trivial ?_
        refine g_step rfl rfl rfl rfl (e_ane rfl rfl (by kernel_rfl) (eqOk_Movement ((undM m)) ((⟨(⟨#[]⟩ : ByteArray), 0, 0, 0, 0, 0⟩ : Movement))) (eqV_Movement ((undM m)) ((⟨(⟨#[]⟩ : ByteArray), 0, 0, 0, 0, 0⟩ : Movement)))) trivial ?_
        refine g_step rfl rfl rfl rfl (e_pickT (v := .sc _) rfl rfl) trivial ?_
        refine g_step rfl rfl rfl rfl (e_pickF (v := .sc _) rfl rfl) trivial ?_
        refine g_step rfl rfl rfl rfl (e_move (v := .sc _) rfl) trivial ?_
        refine g_cases (fun hb144 => ?_) (fun hb144 => ?_)
        ·have hb144R := hb144; (try simp only [z1, z2, z3, z4, z5, z6, ne_eq, z7, z8, z9, z10, z11, z12] at hb144); (try (have hsh := shortB_iff hb144)); (try (have hok := stockE_ok hb144)); (try (have hm1 := mo_1 (m := m) hb144)); (try (have hm0 := move_ref (m := m) hb144)); (try (have hu0 := undE_0 hb144)); (try (have hu1 := undE_1 (by assumption) hb144)); (try (have hu2 := undE_2 (by assumption) hb144))
         refine g_skip rfl rfl rfl ?_
         refine g_skip rfl rfl rfl ?_
         refine g_skip rfl rfl rfl ?_
         refine g_skip rfl rfl rfl ?_
         refine g_skip rfl rfl rfl ?_
         refine g_nocall rfl rfl rfl ?_
         refine g_skip rfl rfl rfl ?_
         refine g_skip rfl rfl rfl ?_
         refine g_step rfl rfl rfl rfl (e_pickT (v := .sc _) rfl rfl) trivial ?_
         refine g_end (ds := [47, 48, 49, 50, 51, 52, 53, 56, 57, 58, 59, 60, 61, 62, 63]) (by kernel_rfl) rfl (hK139 _ ?_); clear hK139 K139
         refine pwp_seq_cond (t := true) rfl fun K145 hK145 => ⟨fun _ => ?_, nofun⟩
         refine pwp_seq_plain rfl fun K146 hK146 => ?_
         refine p_step rfl (e_assign (v := .sc _) rfl) trivial ?_
         refine p_end (hK146 _ ?_); clear hK146 K146
         refine pwp_ret ?_
         refine ret_seq ?_
         refine end1 (v := .sc _) rfl ?_
         first
           | exact out_b rfl
           | (exfalso; omega)
           | (refine out_b ?_; simp; done)
           | exact absurd hu0.2 (by assumption)
           | exact absurd hu1.2 (by assumption)
           | (exfalso; rw [hu1] at *; omega)
           | (exfalso; rw [hu0.1] at *; omega)
           | (exfalso; rw [hu0.2] at *; simp_all; done)
           | (exfalso; rw [hu1.2] at *; simp_all; done)
           | (refine out_b ?_; simp [hm1]; done)
           | (refine out_b ?_; simp [hm0]; done)
           | (exfalso; simp_all; done)
           | (exfalso; simp_all; omega)
        ·have hb144R := hb144; (try simp only [z1, z2, z3, z4, z5, z6, ne_eq, z7, z8, z9, z10, z11, z12] at hb144); (try (have hsh := shortB_iff hb144)); (try (have hok := stockE_ok hb144)); (try (have hm1 := mo_1 (m := m) hb144)); (try (have hm0 := move_ref (m := m) hb144)); (try (have hu0 := undE_0 hb144)); (try (have hu1 := undE_1 (by assumption) hb144)); (try (have hu2 := undE_2 (by assumption) hb144))
         refine g_step rfl rfl rfl rfl (e_move (v := .sc _) rfl) trivial ?_
         refine g_step rfl rfl rfl rfl (e_eq rfl rfl) trivial ?_
         refine g_step rfl rfl rfl rfl (e_move (v := .sc _) rfl) trivial ?_
         refine g_cases (fun hb147 => ?_) (fun hb147 => ?_)
         ·have hb147R := hb147; (try simp only [z1, z2, z3, z4, z5, z6, ne_eq, z7, z8, z9, z10, z11, z12] at hb147); (try (have hsh := shortB_iff hb147)); (try (have hok := stockE_ok hb147)); (try (have hm1 := mo_1 (m := m) hb147)); (try (have hm0 := move_ref (m := m) hb147)); (try (have hu0 := undE_0 hb147)); (try (have hu1 := undE_1 (by assumption) hb147)); (try (have hu2 := undE_2 (by assumption) hb147))
          refine g_step rfl rfl rfl rfl (e_loadHA (cs := Movement.enc ((undM m))) (n := 6) rfl (hset_self _ _ _) (by kernel_rfl) (by kernel_rfl) (by kernel_rfl) (by exact Nat.zero_lt_one) (by decide) rfl) trivial ?_
          refine g_step rfl rfl rfl rfl (e_loadHA (cs := Movement.enc (m)) (n := 6) rfl ((hset_ne (key_ne rfl)).trans ((hset_ne (key_ne rfl)).trans (hset_self _ _ _))) (by kernel_rfl) (by kernel_rfl) (by kernel_rfl) (by exact Nat.zero_lt_one) (by decide) rfl) trivial ?_
          refine g_call rfl rfl rfl rfl (.cons (inn_agg (Movement.pure (m))) .nil) (Opposite _) ?_
          refine g_step rfl rfl rfl rfl (e_ane rfl rfl (by kernel_rfl) (eqOk_Movement ((undM m)) ((opp m))) (eqV_Movement ((undM m)) ((opp m)))) trivial ?_
          refine g_step rfl rfl rfl rfl (e_pickT (v := .sc _) rfl rfl) trivial ?_
          refine g_step rfl rfl rfl rfl (e_pickF (v := .sc _) rfl rfl) trivial ?_
          refine g_end (ds := [47, 48, 49, 50, 51, 52, 53, 56, 57, 58, 59, 60, 61, 62, 63]) (by kernel_rfl) rfl (hK139 _ ?_); clear hK139 K139
          refine pwp_seq_cond rfl fun K148 hK148 => ⟨fun hb149 => ?_, fun hb149 => ?_⟩
          ·have hb149R := hb149; (try simp only [z1, z2, z3, z4, z5, z6, ne_eq, z7, z8, z9, z10, z11, z12] at hb149); (try (have hsh := shortB_iff hb149)); (try (have hok := stockE_ok hb149)); (try (have hm1 := mo_1 (m := m) hb149)); (try (have hm0 := move_ref (m := m) hb149)); (try (have hu0 := undE_0 hb149)); (try (have hu1 := undE_1 (by assumption) hb149)); (try (have hu2 := undE_2 (by assumption) hb149))
           refine pwp_seq_plain rfl fun K150 hK150 => ?_
           refine p_step rfl (e_assign (v := .sc _) rfl) trivial ?_
           refine p_end (hK150 _ ?_); clear hK150 K150
           refine pwp_ret ?_
           refine ret_seq ?_
           refine end1 (v := .sc _) rfl ?_
           first
             | exact out_b rfl
             | (exfalso; omega)
             | (refine out_b ?_; simp; done)
             | exact absurd hu0.2 (by assumption)
             | exact absurd hu1.2 (by assumption)
             | (exfalso; rw [hu1] at *; omega)
             | (exfalso; rw [hu0.1] at *; omega)
             | (exfalso; rw [hu0.2] at *; simp_all; done)
             | (exfalso; rw [hu1.2] at *; simp_all; done)
             | (refine out_b ?_; simp [hm1]; done)
             | (refine out_b ?_; simp [hm0]; done)
             | (exfalso; simp_all; done)
             | (exfalso; simp_all; omega)
          ·have hb149R := hb149; (try simp only [z1, z2, z3, z4, z5, z6, ne_eq, z7, z8, z9, z10, z11, z12] at hb149); (try (have hsh := shortB_iff hb149)); (try (have hok := stockE_ok hb149)); (try (have hm1 := mo_1 (m := m) hb149)); (try (have hm0 := move_ref (m := m) hb149)); (try (have hu0 := undE_0 hb149)); (try (have hu1 := undE_1 (by assumption) hb149)); (try (have hu2 := undE_2 (by assumption) hb149))
           refine pwp_skip ?_
           refine seq_norm (hK148 _ ?_); clear hK148 K148
           refine pwp_seq_plain rfl fun K151 hK151 => ?_
           refine p_step rfl (e_move (v := .lit _ _ _) rfl) trivial ?_
           refine p_step rfl (e_loadHA (cs := Movement.enc (m)) (n := 6) rfl ((hset_ne (key_ne rfl)).trans ((hset_ne (key_ne rfl)).trans (hset_self _ _ _))) (by kernel_rfl) (by kernel_rfl) (by kernel_rfl) (by exact Nat.zero_lt_one) (by decide) rfl) trivial ?_
           refine p_call rfl (.cons inn_lit (.cons (inn_agg (Movement.pure (m))) .nil)) (MoveS _ _ hsh.2.1 hsh.2.2 (by omega)) ?_
           refine p_step rfl (e_move (v := .tup _) rfl) trivial ?_
           refine p_step rfl (e_ext (v := .lit _ _ _) rfl (by simp) rfl) trivial ?_
           refine p_step rfl (e_ext (v := .sc _) rfl (by simp) rfl) trivial ?_
           refine p_step rfl (e_assign (v := .lit _ _ _) rfl) trivial ?_
           refine p_step rfl (e_assign (v := .sc _) rfl) trivial ?_
           refine p_end (hK151 _ ?_); clear hK151 K151
           refine pwp_seq_seq ?_
           refine pwp_seq_plain rfl fun K152 hK152 => ?_
           refine p_step rfl (e_move (v := .lit _ _ _) rfl) trivial ?_
           refine p_call rfl (.cons inn_lit .nil) (refCheckS _ hsh.2.1 hsh.2.2) ?_
           refine p_step rfl (e_assign (v := .sc _) rfl) trivial ?_
           refine p_end (hK152 _ ?_); clear hK152 K152
           refine pwp_seq_seq ?_
           refine pwp_seq_plain rfl fun K153 hK153 => ?_
           refine p_step rfl (e_move (v := .sc _) rfl) trivial ?_
           refine p_step rfl (e_ne rfl rfl) trivial ?_
           refine p_end (hK153 _ ?_); clear hK153 K153
           refine pwp_seq_cond rfl fun K154 hK154 => ⟨fun hb155 => ?_, fun hb155 => ?_⟩
           ·have hb155R := hb155; (try simp only [z1, z2, z3, z4, z5, z6, ne_eq, z7, z8, z9, z10, z11, z12] at hb155); (try (have hsh := shortB_iff hb155)); (try (have hok := stockE_ok hb155)); (try (have hm1 := mo_1 (m := m) hb155)); (try (have hm0 := move_ref (m := m) hb155)); (try (have hu0 := undE_0 hb155)); (try (have hu1 := undE_1 (by assumption) hb155)); (try (have hu2 := undE_2 (by assumption) hb155))
            refine pwp_seq_gops rfl fun K156 hK156 => ?_
            refine g_begin ?_
            refine g_step rfl rfl rfl rfl (e_move (v := .sc _) rfl) trivial ?_
            refine g_step rfl rfl rfl rfl (e_move (v := .sc _) rfl) trivial ?_
            refine g_step rfl rfl rfl rfl (e_eq rfl rfl) trivial ?_
            refine g_step rfl rfl rfl rfl (e_move (v := .sc _) rfl) trivial ?_
            refine g_cases (fun hb157 => ?_) (fun hb157 => ?_)
            ·have hb157R := hb157; (try simp only [z1, z2, z3, z4, z5, z6, ne_eq, z7, z8, z9, z10, z11, z12] at hb157); (try (have hsh := shortB_iff hb157)); (try (have hok := stockE_ok hb157)); (try (have hm1 := mo_1 (m := m) hb157)); (try (have hm0 := move_ref (m := m) hb157)); (try (have hu0 := undE_0 hb157)); (try (have hu1 := undE_1 (by assumption) hb157)); (try (have hu2 := undE_2 (by assumption) hb157))
             refine g_step rfl rfl rfl rfl (e_move (v := .lit _ _ _) rfl) trivial ?_
             refine g_step rfl rfl rfl rfl (e_len rfl (by kernel_rfl)) trivial ?_
             refine g_step rfl rfl rfl rfl (e_eq rfl rfl) trivial ?_
             refine g_step rfl rfl rfl rfl (e_pickT (v := .sc _) rfl rfl) trivial ?_
             refine g_step rfl rfl rfl rfl (e_assign (v := .sc _) rfl) trivial ?_
             refine g_end (ds := [79, 80, 81]) rfl rfl (hK156 _ ?_); clear hK156 K156
             refine pwp_ret ?_
             refine ret_seq ?_
             refine end1 (v := .sc _) rfl ?_
             first
               | exact out_b rfl
               | (exfalso; omega)
               | (refine out_b ?_; simp; done)
               | exact absurd hu0.2 (by assumption)
               | exact absurd hu1.2 (by assumption)
               | (exfalso; rw [hu1] at *; omega)
               | (exfalso; rw [hu0.1] at *; omega)
               | (exfalso; rw [hu0.2] at *; simp_all; done)
               | (exfalso; rw [hu1.2] at *; simp_all; done)
               | (refine out_b ?_; simp [hm1]; done)
               | (refine out_b ?_; simp [hm0]; done)
               | (exfalso; simp_all; done)
               | (exfalso; simp_all; omega)
            ·have hb157R := hb157; (try simp only [z1, z2, z3, z4, z5, z6, ne_eq, z7, z8, z9, z10, z11, z12] at hb157); (try (have hsh := shortB_iff hb157)); (try (have hok := stockE_ok hb157)); (try (have hm1 := mo_1 (m := m) hb157)); (try (have hm0 := move_ref (m := m) hb157)); (try (have hu0 := undE_0 hb157)); (try (have hu1 := undE_1 (by assumption) hb157)); (try (have hu2 := undE_2 (by assumption) hb157))
             refine g_skip rfl rfl rfl ?_
             refine g_skip rfl rfl rfl ?_
             refine g_skip rfl rfl rfl ?_
             refine g_step rfl rfl rfl rfl (e_pickF (v := .sc _) rfl rfl) trivial ?_
             refine g_step rfl rfl rfl rfl (e_assign (v := .sc _) rfl) trivial ?_
             refine g_end (ds := [79, 80, 81]) rfl rfl (hK156 _ ?_); clear hK156 K156
             refine pwp_ret ?_
             refine ret_seq ?_
             refine end1 (v := .sc _) rfl ?_
             first
               | exact out_b rfl
               | (exfalso; omega)
               | (refine out_b ?_; simp; done)
               | exact absurd hu0.2 (by assumption)
               | exact absurd hu1.2 (by assumption)
               | (exfalso; rw [hu1] at *; omega)
               | (exfalso; rw [hu0.1] at *; omega)
               | (exfalso; rw [hu0.2] at *; simp_all; done)
               | (exfalso; rw [hu1.2] at *; simp_all; done)
               | (refine out_b ?_; simp [hm1]; done)
               | (refine out_b ?_; simp [hm0]; done)
               | (exfalso; simp_all; done)
               | (exfalso; simp_all; omega)
           ·have hb155R := hb155; (try simp only [z1, z2, z3, z4, z5, z6, ne_eq, z7, z8, z9, z10, z11, z12] at hb155); (try (have hsh := shortB_iff hb155)); (try (have hok := stockE_ok hb155)); (try (have hm1 := mo_1 (m := m) hb155)); (try (have hm0 := move_ref (m := m) hb155)); (try (have hu0 := undE_0 hb155)); (try (have hu1 := undE_1 (by assumption) hb155)); (try (have hu2 := undE_2 (by assumption) hb155))
            refine pwp_skip ?_
            refine seq_norm (hK154 _ ?_); clear hK154 K154
            refine pwp_seq_plain rfl fun K158 hK158 => ?_
            refine p_step rfl (e_move (v := .lit _ _ _) rfl) trivial ?_
            refine p_step rfl (e_loadHA (cs := Movement.enc (m)) (n := 6) rfl ((hset_ne (key_ne rfl)).trans ((hset_ne (key_ne rfl)).trans (hset_self _ _ _))) (by kernel_rfl) (by kernel_rfl) (by kernel_rfl) (by exact Nat.zero_lt_one) (by decide) rfl) trivial ?_
            refine p_call rfl (.cons inn_lit (.cons (inn_agg (Movement.pure (m))) .nil)) (refMove _ _ hsh.2.1 (fun y hy => by have := hok.2 y hy; omega) (by omega)) ?_
            refine p_step rfl (e_move (v := .tup _) rfl) trivial ?_
            refine p_step rfl (e_ext (v := .lit _ _ _) rfl (by simp) rfl) trivial ?_
            refine p_step rfl (e_ext (v := .sc _) rfl (by simp) rfl) trivial ?_
            refine p_step rfl (e_assign (v := .lit _ _ _) rfl) trivial ?_
            refine p_step rfl (e_assign (v := .sc _) rfl) trivial ?_
            refine p_end (hK158 _ ?_); clear hK158 K158
            refine pwp_seq_gops rfl fun K159 hK159 => ?_
            refine g_begin ?_
            refine g_step rfl rfl rfl rfl (e_move (v := .sc _) rfl) trivial ?_
            refine g_step rfl rfl rfl rfl (e_move (v := .sc _) rfl) trivial ?_
            refine g_step rfl rfl rfl rfl (e_eq rfl rfl) trivial ?_
            refine g_step rfl rfl rfl rfl (e_move (v := .sc _) rfl) trivial ?_
            refine g_cases (fun hb160 => ?_) (fun hb160 => ?_)
            ·have hb160R := hb160; (try simp only [z1, z2, z3, z4, z5, z6, ne_eq, z7, z8, z9, z10, z11, z12] at hb160); (try (have hsh := shortB_iff hb160)); (try (have hok := stockE_ok hb160)); (try (have hm1 := mo_1 (m := m) hb160)); (try (have hm0 := move_ref (m := m) hb160)); (try (have hu0 := undE_0 hb160)); (try (have hu1 := undE_1 (by assumption) hb160)); (try (have hu2 := undE_2 (by assumption) hb160))
             refine g_step rfl rfl rfl rfl (e_move (v := .lit _ _ _) rfl) trivial ?_
             refine g_step rfl rfl rfl rfl (e_move (v := .lit _ _ _) rfl) trivial ?_
             refine g_call rfl rfl rfl rfl (.cons inn_lit (.cons inn_lit .nil)) (SameStock _ _ (Nat.le_trans (moveR_len xs m) (by decide))) ?_
             refine g_step rfl rfl rfl rfl (e_pickT (v := .sc _) rfl rfl) trivial ?_
             refine g_step rfl rfl rfl rfl (e_assign (v := .sc _) rfl) trivial ?_
             refine g_end (ds := [93, 94, 95]) rfl rfl (hK159 _ ?_); clear hK159 K159
             refine pwp_ret ?_
             refine end1 (v := .sc _) rfl ?_
             first
               | exact out_b rfl
               | (exfalso; omega)
               | (refine out_b ?_; simp; done)
               | exact absurd hu0.2 (by assumption)
               | exact absurd hu1.2 (by assumption)
               | (exfalso; rw [hu1] at *; omega)
               | (exfalso; rw [hu0.1] at *; omega)
               | (exfalso; rw [hu0.2] at *; simp_all; done)
               | (exfalso; rw [hu1.2] at *; simp_all; done)
               | (refine out_b ?_; simp [hm1]; done)
               | (refine out_b ?_; simp [hm0]; done)
               | (exfalso; simp_all; done)
               | (exfalso; simp_all; omega)
            ·have hb160R := hb160; (try simp only [z1, z2, z3, z4, z5, z6, ne_eq, z7, z8, z9, z10, z11, z12] at hb160); (try (have hsh := shortB_iff hb160)); (try (have hok := stockE_ok hb160)); (try (have hm1 := mo_1 (m := m) hb160)); (try (have hm0 := move_ref (m := m) hb160)); (try (have hu0 := undE_0 hb160)); (try (have hu1 := undE_1 (by assumption) hb160)); (try (have hu2 := undE_2 (by assumption) hb160))
             refine g_skip rfl rfl rfl ?_
             refine g_skip rfl rfl rfl ?_
             refine g_nocall rfl rfl rfl ?_
             refine g_step rfl rfl rfl rfl (e_pickF (v := .sc _) rfl rfl) trivial ?_
             refine g_step rfl rfl rfl rfl (e_assign (v := .sc _) rfl) trivial ?_
             refine g_end (ds := [93, 94, 95]) rfl rfl (hK159 _ ?_); clear hK159 K159
             refine pwp_ret ?_
             refine end1 (v := .sc _) rfl ?_
             first
               | exact out_b rfl
               | (exfalso; omega)
               | (refine out_b ?_; simp; done)
               | exact absurd hu0.2 (by assumption)
               | exact absurd hu1.2 (by assumption)
               | (exfalso; rw [hu1] at *; omega)
               | (exfalso; rw [hu0.1] at *; omega)
               | (exfalso; rw [hu0.2] at *; simp_all; done)
               | (exfalso; rw [hu1.2] at *; simp_all; done)
               | (refine out_b ?_; simp [hm1]; done)
               | (refine out_b ?_; simp [hm0]; done)
               | (exfalso; simp_all; done)
               | (exfalso; simp_all; omega)
         ·have hb147R := hb147; (try simp only [z1, z2, z3, z4, z5, z6, ne_eq, z7, z8, z9, z10, z11, z12] at hb147); (try (have hsh := shortB_iff hb147)); (try (have hok := stockE_ok hb147)); (try (have hm1 := mo_1 (m := m) hb147)); (try (have hm0 := move_ref (m := m) hb147)); (try (have hu0 := undE_0 hb147)); (try (have hu1 := undE_1 (by assumption) hb147)); (try (have hu2 := undE_2 (by assumption) hb147))
          refine g_skip rfl rfl rfl ?_
          refine g_skip rfl rfl rfl ?_
          refine g_nocall rfl rfl rfl ?_
          refine g_skip rfl rfl rfl ?_
          refine g_step rfl rfl rfl rfl (e_pickF (v := .sc _) rfl rfl) trivial ?_
          refine g_step rfl rfl rfl rfl (e_pickF (v := .sc _) rfl rfl) trivial ?_
          refine g_end (ds := [47, 48, 49, 50, 51, 52, 53, 56, 57, 58, 59, 60, 61, 62, 63]) (by kernel_rfl) rfl (hK139 _ ?_); clear hK139 K139
          refine pwp_seq_cond (t := false) rfl fun K161 hK161 => ⟨nofun, fun _ => ?_⟩
          refine pwp_skip ?_
          refine seq_norm (hK161 _ ?_); clear hK161 K161
          refine pwp_seq_plain rfl fun K162 hK162 => ?_
          refine p_step rfl (e_move (v := .lit _ _ _) rfl) trivial ?_
          refine p_step rfl (e_loadHA (cs := Movement.enc (m)) (n := 6) rfl ((hset_ne (key_ne rfl)).trans ((hset_ne (key_ne rfl)).trans (hset_self _ _ _))) (by kernel_rfl) (by kernel_rfl) (by kernel_rfl) (by exact Nat.zero_lt_one) (by decide) rfl) trivial ?_
          refine p_call rfl (.cons inn_lit (.cons (inn_agg (Movement.pure (m))) .nil)) (MoveS _ _ hsh.2.1 hsh.2.2 (by omega)) ?_
          refine p_step rfl (e_move (v := .tup _) rfl) trivial ?_
          refine p_step rfl (e_ext (v := .lit _ _ _) rfl (by simp) rfl) trivial ?_
          refine p_step rfl (e_ext (v := .sc _) rfl (by simp) rfl) trivial ?_
          refine p_step rfl (e_assign (v := .lit _ _ _) rfl) trivial ?_
          refine p_step rfl (e_assign (v := .sc _) rfl) trivial ?_
          refine p_end (hK162 _ ?_); clear hK162 K162
          refine pwp_seq_seq ?_
          refine pwp_seq_plain rfl fun K163 hK163 => ?_
          refine p_step rfl (e_move (v := .lit _ _ _) rfl) trivial ?_
          refine p_call rfl (.cons inn_lit .nil) (refCheckS _ hsh.2.1 hsh.2.2) ?_
          refine p_step rfl (e_assign (v := .sc _) rfl) trivial ?_
          refine p_end (hK163 _ ?_); clear hK163 K163
          refine pwp_seq_seq ?_
          refine pwp_seq_plain rfl fun K164 hK164 => ?_
          refine p_step rfl (e_move (v := .sc _) rfl) trivial ?_
          refine p_step rfl (e_ne rfl rfl) trivial ?_
          refine p_end (hK164 _ ?_); clear hK164 K164
          refine pwp_seq_cond rfl fun K165 hK165 => ⟨fun hb166 => ?_, fun hb166 => ?_⟩
          ·have hb166R := hb166; (try simp only [z1, z2, z3, z4, z5, z6, ne_eq, z7, z8, z9, z10, z11, z12] at hb166); (try (have hsh := shortB_iff hb166)); (try (have hok := stockE_ok hb166)); (try (have hm1 := mo_1 (m := m) hb166)); (try (have hm0 := move_ref (m := m) hb166)); (try (have hu0 := undE_0 hb166)); (try (have hu1 := undE_1 (by assumption) hb166)); (try (have hu2 := undE_2 (by assumption) hb166))
           refine pwp_seq_gops rfl fun K167 hK167 => ?_
           refine g_begin ?_
           refine g_step rfl rfl rfl rfl (e_move (v := .sc _) rfl) trivial ?_
           refine g_step rfl rfl rfl rfl (e_move (v := .sc _) rfl) trivial ?_
           refine g_step rfl rfl rfl rfl (e_eq rfl rfl) trivial ?_
           refine g_step rfl rfl rfl rfl (e_move (v := .sc _) rfl) trivial ?_
           refine g_cases (fun hb168 => ?_) (fun hb168 => ?_)
           ·have hb168R := hb168; (try simp only [z1, z2, z3, z4, z5, z6, ne_eq, z7, z8, z9, z10, z11, z12] at hb168); (try (have hsh := shortB_iff hb168)); (try (have hok := stockE_ok hb168)); (try (have hm1 := mo_1 (m := m) hb168)); (try (have hm0 := move_ref (m := m) hb168)); (try (have hu0 := undE_0 hb168)); (try (have hu1 := undE_1 (by assumption) hb168)); (try (have hu2 := undE_2 (by assumption) hb168))
            refine g_step rfl rfl rfl rfl (e_move (v := .lit _ _ _) rfl) trivial ?_
            refine g_step rfl rfl rfl rfl (e_len rfl (by kernel_rfl)) trivial ?_
            refine g_step rfl rfl rfl rfl (e_eq rfl rfl) trivial ?_
            refine g_step rfl rfl rfl rfl (e_pickT (v := .sc _) rfl rfl) trivial ?_
            refine g_step rfl rfl rfl rfl (e_assign (v := .sc _) rfl) trivial ?_
            refine g_end (ds := [79, 80, 81]) rfl rfl (hK167 _ ?_); clear hK167 K167
            refine pwp_ret ?_
            refine ret_seq ?_
            refine end1 (v := .sc _) rfl ?_
            first
              | exact out_b rfl
              | (exfalso; omega)
              | (refine out_b ?_; simp; done)
              | exact absurd hu0.2 (by assumption)
              | exact absurd hu1.2 (by assumption)
              | (exfalso; rw [hu1] at *; omega)
              | (exfalso; rw [hu0.1] at *; omega)
              | (exfalso; rw [hu0.2] at *; simp_all; done)
              | (exfalso; rw [hu1.2] at *; simp_all; done)
              | (refine out_b ?_; simp [hm1]; done)
              | (refine out_b ?_; simp [hm0]; done)
              | (exfalso; simp_all; done)
              | (exfalso; simp_all; omega)
           ·have hb168R := hb168; (try simp only [z1, z2, z3, z4, z5, z6, ne_eq, z7, z8, z9, z10, z11, z12] at hb168); (try (have hsh := shortB_iff hb168)); (try (have hok := stockE_ok hb168)); (try (have hm1 := mo_1 (m := m) hb168)); (try (have hm0 := move_ref (m := m) hb168)); (try (have hu0 := undE_0 hb168)); (try (have hu1 := undE_1 (by assumption) hb168)); (try (have hu2 := undE_2 (by assumption) hb168))
            refine g_skip rfl rfl rfl ?_
            refine g_skip rfl rfl rfl ?_
            refine g_skip rfl rfl rfl ?_
            refine g_step rfl rfl rfl rfl (e_pickF (v := .sc _) rfl rfl) trivial ?_
            refine g_step rfl rfl rfl rfl (e_assign (v := .sc _) rfl) trivial ?_
            refine g_end (ds := [79, 80, 81]) rfl rfl (hK167 _ ?_); clear hK167 K167
            refine pwp_ret ?_
            refine ret_seq ?_
            refine end1 (v := .sc _) rfl ?_
            first
              | exact out_b rfl
              | (exfalso; omega)
              | (refine out_b ?_; simp; done)
              | exact absurd hu0.2 (by assumption)
              | exact absurd hu1.2 (by assumption)
              | (exfalso; rw [hu1] at *; omega)
              | (exfalso; rw [hu0.1] at *; omega)
              | (exfalso; rw [hu0.2] at *; simp_all; done)
              | (exfalso; rw [hu1.2] at *; simp_all; done)
              | (refine out_b ?_; simp [hm1]; done)
              | (refine out_b ?_; simp [hm0]; done)
              | (exfalso; simp_all; done)
              | (exfalso; simp_all; omega)
          ·have hb166R := hb166; (try simp only [z1, z2, z3, z4, z5, z6, ne_eq, z7, z8, z9, z10, z11, z12] at hb166); (try (have hsh := shortB_iff hb166)); (try (have hok := stockE_ok hb166)); (try (have hm1 := mo_1 (m := m) hb166)); (try (have hm0 := move_ref (m := m) hb166)); (try (have hu0 := undE_0 hb166)); (try (have hu1 := undE_1 (by assumption) hb166)); (try (have hu2 := undE_2 (by assumption) hb166))
           refine pwp_skip ?_
           refine seq_norm (hK165 _ ?_); clear hK165 K165
           refine pwp_seq_plain rfl fun K169 hK169 => ?_
           refine p_step rfl (e_move (v := .lit _ _ _) rfl) trivial ?_
           refine p_step rfl (e_loadHA (cs := Movement.enc (m)) (n := 6) rfl ((hset_ne (key_ne rfl)).trans ((hset_ne (key_ne rfl)).trans (hset_self _ _ _))) (by kernel_rfl) (by kernel_rfl) (by kernel_rfl) (by exact Nat.zero_lt_one) (by decide) rfl) trivial ?_
           refine p_call rfl (.cons inn_lit (.cons (inn_agg (Movement.pure (m))) .nil)) (refMove _ _ hsh.2.1 (fun y hy => by have := hok.2 y hy; omega) (by omega)) ?_
           refine p_step rfl (e_move (v := .tup _) rfl) trivial ?_
           refine p_step rfl (e_ext (v := .lit _ _ _) rfl (by simp) rfl) trivial ?_
           refine p_step rfl (e_ext (v := .sc _) rfl (by simp) rfl) trivial ?_
           refine p_step rfl (e_assign (v := .lit _ _ _) rfl) trivial ?_
           refine p_step rfl (e_assign (v := .sc _) rfl) trivial ?_
           refine p_end (hK169 _ ?_); clear hK169 K169
           refine pwp_seq_gops rfl fun K170 hK170 => ?_
           refine g_begin ?_
           refine g_step rfl rfl rfl rfl (e_move (v := .sc _) rfl) trivial ?_
           refine g_step rfl rfl rfl rfl (e_move (v := .sc _) rfl) trivial ?_
           refine g_step rfl rfl rfl rfl (e_eq rfl rfl) trivial ?_
           refine g_step rfl rfl rfl rfl (e_move (v := .sc _) rfl) trivial ?_
           refine g_cases (fun hb171 => ?_) (fun hb171 => ?_)
           ·have hb171R := hb171; (try simp only [z1, z2, z3, z4, z5, z6, ne_eq, z7, z8, z9, z10, z11, z12] at hb171); (try (have hsh := shortB_iff hb171)); (try (have hok := stockE_ok hb171)); (try (have hm1 := mo_1 (m := m) hb171)); (try (have hm0 := move_ref (m := m) hb171)); (try (have hu0 := undE_0 hb171)); (try (have hu1 := undE_1 (by assumption) hb171)); (try (have hu2 := undE_2 (by assumption) hb171))
            refine g_step rfl rfl rfl rfl (e_move (v := .lit _ _ _) rfl) trivial ?_
            refine g_step rfl rfl rfl rfl (e_move (v := .lit _ _ _) rfl) trivial ?_
            refine g_call rfl rfl rfl rfl (.cons inn_lit (.cons inn_lit .nil)) (SameStock _ _ (Nat.le_trans (moveR_len xs m) (by decide))) ?_
            refine g_step rfl rfl rfl rfl (e_pickT (v := .sc _) rfl rfl) trivial ?_
            refine g_step rfl rfl rfl rfl (e_assign (v := .sc _) rfl) trivial ?_
            refine g_end (ds := [93, 94, 95]) rfl rfl (hK170 _ ?_); clear hK170 K170
            refine pwp_ret ?_
            refine end1 (v := .sc _) rfl ?_
            first
              | exact out_b rfl
              | (exfalso; omega)
              | (refine out_b ?_; simp; done)
              | exact absurd hu0.2 (by assumption)
              | exact absurd hu1.2 (by assumption)
              | (exfalso; rw [hu1] at *; omega)
              | (exfalso; rw [hu0.1] at *; omega)
              | (exfalso; rw [hu0.2] at *; simp_all; done)
              | (exfalso; rw [hu1.2] at *; simp_all; done)
              | (refine out_b ?_; simp [hm1]; done)
              | (refine out_b ?_; simp [hm0]; done)
              | (exfalso; simp_all; done)
              | (exfalso; simp_all; omega)
           ·have hb171R := hb171; (try simp only [z1, z2, z3, z4, z5, z6, ne_eq, z7, z8, z9, z10, z11, z12] at hb171); (try (have hsh := shortB_iff hb171)); (try (have hok := stockE_ok hb171)); (try (have hm1 := mo_1 (m := m) hb171)); (try (have hm0 := move_ref (m := m) hb171)); (try (have hu0 := undE_0 hb171)); (try (have hu1 := undE_1 (by assumption) hb171)); (try (have hu2 := undE_2 (by assumption) hb171))
            refine g_skip rfl rfl rfl ?_
            refine g_skip rfl rfl rfl ?_
            refine g_nocall rfl rfl rfl ?_
            refine g_step rfl rfl rfl rfl (e_pickF (v := .sc _) rfl rfl) trivial ?_
            refine g_step rfl rfl rfl rfl (e_assign (v := .sc _) rfl) trivial ?_
            refine g_end (ds := [93, 94, 95]) rfl rfl (hK170 _ ?_); clear hK170 K170
            refine pwp_ret ?_
            refine end1 (v := .sc _) rfl ?_
            first
              | exact out_b rfl
              | (exfalso; omega)
              | (refine out_b ?_; simp; done)
              | exact absurd hu0.2 (by assumption)
              | exact absurd hu1.2 (by assumption)
              | (exfalso; rw [hu1] at *; omega)
              | (exfalso; rw [hu0.1] at *; omega)
              | (exfalso; rw [hu0.2] at *; simp_all; done)
              | (exfalso; rw [hu1.2] at *; simp_all; done)
              | (refine out_b ?_; simp [hm1]; done)
              | (refine out_b ?_; simp [hm0]; done)
              | (exfalso; simp_all; done)
              | (exfalso; simp_all; omega)
       ·have hb143R := hb143; (try simp only [z1, z2, z3, z4, z5, z6, ne_eq, z7, z8, z9, z10, z11, z12] at hb143); (try (have hsh := shortB_iff hb143)); (try (have hok := stockE_ok hb143)); (try (have hm1 := mo_1 (m := m) hb143)); (try (have hm0 := move_ref (m := m) hb143)); (try (have hu0 := undE_0 hb143)); (try (have hu1 := undE_1 (by assumption) hb143)); (try (have hu2 := undE_2 (by assumption) hb143))
        refine g_skip rfl rfl rfl ?_
        refine g_skip rfl rfl rfl ?_
        refine g_skip rfl rfl rfl ?_
        refine g_step rfl rfl rfl rfl (e_pickF (v := .sc _) rfl rfl) trivial ?_
        refine g_step rfl rfl rfl rfl (e_pickF (v := .sc _) rfl rfl) trivial ?_
        refine g_step rfl rfl rfl rfl (e_move (v := .sc _) rfl) trivial ?_
        refine g_step rfl rfl rfl rfl (e_move (v := .sc _) rfl) trivial ?_
        refine g_step rfl rfl rfl rfl (e_eq rfl rfl) trivial ?_
        refine g_step rfl rfl rfl rfl (e_move (v := .sc _) rfl) trivial ?_
        refine g_cases (fun hb172 => ?_) (fun hb172 => ?_)
        ·have hb172R := hb172; (try simp only [z1, z2, z3, z4, z5, z6, ne_eq, z7, z8, z9, z10, z11, z12] at hb172); (try (have hsh := shortB_iff hb172)); (try (have hok := stockE_ok hb172)); (try (have hm1 := mo_1 (m := m) hb172)); (try (have hm0 := move_ref (m := m) hb172)); (try (have hu0 := undE_0 hb172)); (try (have hu1 := undE_1 (by assumption) hb172)); (try (have hu2 := undE_2 (by assumption) hb172))
         refine g_step rfl rfl rfl rfl (e_loadHA (cs := Movement.enc ((undM m))) (n := 6) rfl (hset_self _ _ _) (by kernel_rfl) (by kernel_rfl) (by kernel_rfl) (by exact Nat.zero_lt_one) (by decide) rfl) trivial ?_
         refine g_step rfl rfl rfl rfl (e_loadHA (cs := Movement.enc (m)) (n := 6) rfl ((hset_ne (key_ne rfl)).trans ((hset_ne (key_ne rfl)).trans (hset_self _ _ _))) (by kernel_rfl) (by kernel_rfl) (by kernel_rfl) (by exact Nat.zero_lt_one) (by decide) rfl) trivial ?_
         refine g_call rfl rfl rfl rfl (.cons (inn_agg (Movement.pure (m))) .nil) (Opposite _) ?_
         refine g_step rfl rfl rfl rfl (e_ane rfl rfl (by kernel_rfl) (eqOk_Movement ((undM m)) ((opp m))) (eqV_Movement ((undM m)) ((opp m)))) trivial ?_
         refine g_step rfl rfl rfl rfl (e_pickT (v := .sc _) rfl rfl) trivial ?_
         refine g_step rfl rfl rfl rfl (e_pickF (v := .sc _) rfl rfl) trivial ?_
         refine g_end (ds := [47, 48, 49, 50, 51, 52, 53, 56, 57, 58, 59, 60, 61, 62, 63]) (by kernel_rfl) rfl (hK139 _ ?_); clear hK139 K139
         refine pwp_seq_cond rfl fun K173 hK173 => ⟨fun hb174 => ?_, fun hb174 => ?_⟩
         ·have hb174R := hb174; (try simp only [z1, z2, z3, z4, z5, z6, ne_eq, z7, z8, z9, z10, z11, z12] at hb174); (try (have hsh := shortB_iff hb174)); (try (have hok := stockE_ok hb174)); (try (have hm1 := mo_1 (m := m) hb174)); (try (have hm0 := move_ref (m := m) hb174)); (try (have hu0 := undE_0 hb174)); (try (have hu1 := undE_1 (by assumption) hb174)); (try (have hu2 := undE_2 (by assumption) hb174))
          refine pwp_seq_plain rfl fun K175 hK175 => ?_
          refine p_step rfl (e_assign (v := .sc _) rfl) trivial ?_
          refine p_end (hK175 _ ?_); clear hK175 K175
          refine pwp_ret ?_
          refine ret_seq ?_
          refine end1 (v := .sc _) rfl ?_
          first
            | exact out_b rfl
            | (exfalso; omega)
            | (refine out_b ?_; simp; done)
            | exact absurd hu0.2 (by assumption)
            | exact absurd hu1.2 (by assumption)
            | (exfalso; rw [hu1] at *; omega)
            | (exfalso; rw [hu0.1] at *; omega)
            | (exfalso; rw [hu0.2] at *; simp_all; done)
            | (exfalso; rw [hu1.2] at *; simp_all; done)
            | (refine out_b ?_; simp [hm1]; done)
            | (refine out_b ?_; simp [hm0]; done)
            | (exfalso; simp_all; done)
            | (exfalso; simp_all; omega)
         ·have hb174R := hb174; (try simp only [z1, z2, z3, z4, z5, z6, ne_eq, z7, z8, z9, z10, z11, z12] at hb174); (try (have hsh := shortB_iff hb174)); (try (have hok := stockE_ok hb174)); (try (have hm1 := mo_1 (m := m) hb174)); (try (have hm0 := move_ref (m := m) hb174)); (try (have hu0 := undE_0 hb174)); (try (have hu1 := undE_1 (by assumption) hb174)); (try (have hu2 := undE_2 (by assumption) hb174))
          refine pwp_skip ?_
          refine seq_norm (hK173 _ ?_); clear hK173 K173
          refine pwp_seq_plain rfl fun K176 hK176 => ?_
          refine p_step rfl (e_move (v := .lit _ _ _) rfl) trivial ?_
          refine p_step rfl (e_loadHA (cs := Movement.enc (m)) (n := 6) rfl ((hset_ne (key_ne rfl)).trans ((hset_ne (key_ne rfl)).trans (hset_self _ _ _))) (by kernel_rfl) (by kernel_rfl) (by kernel_rfl) (by exact Nat.zero_lt_one) (by decide) rfl) trivial ?_
          refine p_call rfl (.cons inn_lit (.cons (inn_agg (Movement.pure (m))) .nil)) (MoveS _ _ hsh.2.1 hsh.2.2 (by omega)) ?_
          refine p_step rfl (e_move (v := .tup _) rfl) trivial ?_
          refine p_step rfl (e_ext (v := .lit _ _ _) rfl (by simp) rfl) trivial ?_
          refine p_step rfl (e_ext (v := .sc _) rfl (by simp) rfl) trivial ?_
          refine p_step rfl (e_assign (v := .lit _ _ _) rfl) trivial ?_
          refine p_step rfl (e_assign (v := .sc _) rfl) trivial ?_
          refine p_end (hK176 _ ?_); clear hK176 K176
          refine pwp_seq_seq ?_
          refine pwp_seq_plain rfl fun K177 hK177 => ?_
          refine p_step rfl (e_move (v := .lit _ _ _) rfl) trivial ?_
          refine p_call rfl (.cons inn_lit .nil) (refCheckS _ hsh.2.1 hsh.2.2) ?_
          refine p_step rfl (e_assign (v := .sc _) rfl) trivial ?_
          refine p_end (hK177 _ ?_); clear hK177 K177
          refine pwp_seq_seq ?_
          refine pwp_seq_plain rfl fun K178 hK178 => ?_
          refine p_step rfl (e_move (v := .sc _) rfl) trivial ?_
          refine p_step rfl (e_ne rfl rfl) trivial ?_
          refine p_end (hK178 _ ?_); clear hK178 K178
          refine pwp_seq_cond rfl fun K179 hK179 => ⟨fun hb180 => ?_, fun hb180 => ?_⟩
          ·have hb180R := hb180; (try simp only [z1, z2, z3, z4, z5, z6, ne_eq, z7, z8, z9, z10, z11, z12] at hb180); (try (have hsh := shortB_iff hb180)); (try (have hok := stockE_ok hb180)); (try (have hm1 := mo_1 (m := m) hb180)); (try (have hm0 := move_ref (m := m) hb180)); (try (have hu0 := undE_0 hb180)); (try (have hu1 := undE_1 (by assumption) hb180)); (try (have hu2 := undE_2 (by assumption) hb180))
           refine pwp_seq_gops rfl fun K181 hK181 => ?_
           refine g_begin ?_
           refine g_step rfl rfl rfl rfl (e_move (v := .sc _) rfl) trivial ?_
           refine g_step rfl rfl rfl rfl (e_move (v := .sc _) rfl) trivial ?_
           refine g_step rfl rfl rfl rfl (e_eq rfl rfl) trivial ?_
           refine g_step rfl rfl rfl rfl (e_move (v := .sc _) rfl) trivial ?_
           refine g_cases (fun hb182 => ?_) (fun hb182 => ?_)
           ·have hb182R := hb182; (try simp only [z1, z2, z3, z4, z5, z6, ne_eq, z7, z8, z9, z10, z11, z12] at hb182); (try (have hsh := shortB_iff hb182)); (try (have hok := stockE_ok hb182)); (try (have hm1 := mo_1 (m := m) hb182)); (try (have hm0 := move_ref (m := m) hb182)); (try (have hu0 := undE_0 hb182)); (try (have hu1 := undE_1 (by assumption) hb182)); (try (have hu2 := undE_2 (by assumption) hb182))
            refine g_step rfl rfl rfl rfl (e_move (v := .lit _ _ _) rfl) trivial ?_
            refine g_step rfl rfl rfl rfl (e_len rfl (by kernel_rfl)) trivial ?_
            refine g_step rfl rfl rfl rfl (e_eq rfl rfl) trivial ?_
            refine g_step rfl rfl rfl rfl (e_pickT (v := .sc _) rfl rfl) trivial ?_
            refine g_step rfl rfl rfl rfl (e_assign (v := .sc _) rfl) trivial ?_
            refine g_end (ds := [79, 80, 81]) rfl rfl (hK181 _ ?_); clear hK181 K181
            refine pwp_ret ?_
            refine ret_seq ?_
            refine end1 (v := .sc _) rfl ?_
            first
              | exact out_b rfl
              | (exfalso; omega)
              | (refine out_b ?_; simp; done)
              | exact absurd hu0.2 (by assumption)
              | exact absurd hu1.2 (by assumption)
              | (exfalso; rw [hu1] at *; omega)
              | (exfalso; rw [hu0.1] at *; omega)
              | (exfalso; rw [hu0.2] at *; simp_all; done)
              | (exfalso; rw [hu1.2] at *; simp_all; done)
              | (refine out_b ?_; simp [hm1]; done)
              | (refine out_b ?_; simp [hm0]; done)
              | (exfalso; simp_all; done)
              | (exfalso; simp_all; omega)
           ·have hb182R := hb182; (try simp only [z1, z2, z3, z4, z5, z6, ne_eq, z7, z8, z9, z10, z11, z12] at hb182); (try (have hsh := shortB_iff hb182)); (try (have hok := stockE_ok hb182)); (try (have hm1 := mo_1 (m := m) hb182)); (try (have hm0 := move_ref (m := m) hb182)); (try (have hu0 := undE_0 hb182)); (try (have hu1 := undE_1 (by assumption) hb182)); (try (have hu2 := undE_2 (by assumption) hb182))
            refine g_skip rfl rfl rfl ?_
            refine g_skip rfl rfl rfl ?_
            refine g_skip rfl rfl rfl ?_
            refine g_step rfl rfl rfl rfl (e_pickF (v := .sc _) rfl rfl) trivial ?_
            refine g_step rfl rfl rfl rfl (e_assign (v := .sc _) rfl) trivial ?_
            refine g_end (ds := [79, 80, 81]) rfl rfl (hK181 _ ?_); clear hK181 K181
            refine pwp_ret ?_
            refine ret_seq ?_
            refine end1 (v := .sc _) rfl ?_
            first
              | exact out_b rfl
              | (exfalso; omega)
              | (refine out_b ?_; simp; done)
              | exact absurd hu0.2 (by assumption)
              | exact absurd hu1.2 (by assumption)
              | (exfalso; rw [hu1] at *; omega)
              | (exfalso; rw [hu0.1] at *; omega)
              | (exfalso; rw [hu0.2] at *; simp_all; done)
              | (exfalso; rw [hu1.2] at *; simp_all; done)
              | (refine out_b ?_; simp [hm1]; done)
              | (refine out_b ?_; simp [hm0]; done)
              | (exfalso; simp_all; done)
              | (exfalso; simp_all; omega)
          ·have hb180R := hb180; (try simp only [z1, z2, z3, z4, z5, z6, ne_eq, z7, z8, z9, z10, z11, z12] at hb180); (try (have hsh := shortB_iff hb180)); (try (have hok := stockE_ok hb180)); (try (have hm1 := mo_1 (m := m) hb180)); (try (have hm0 := move_ref (m := m) hb180)); (try (have hu0 := undE_0 hb180)); (try (have hu1 := undE_1 (by assumption) hb180)); (try (have hu2 := undE_2 (by assumption) hb180))
           refine pwp_skip ?_
           refine seq_norm (hK179 _ ?_); clear hK179 K179
           refine pwp_seq_plain rfl fun K183 hK183 => ?_
           refine p_step rfl (e_move (v := .lit _ _ _) rfl) trivial ?_
           refine p_step rfl (e_loadHA (cs := Movement.enc (m)) (n := 6) rfl ((hset_ne (key_ne rfl)).trans ((hset_ne (key_ne rfl)).trans (hset_self _ _ _))) (by kernel_rfl) (by kernel_rfl) (by kernel_rfl) (by exact Nat.zero_lt_one) (by decide) rfl) trivial ?_
           refine p_call rfl (.cons inn_lit (.cons (inn_agg (Movement.pure (m))) .nil)) (refMove _ _ hsh.2.1 (fun y hy => by have := hok.2 y hy; omega) (by omega)) ?_
           refine p_step rfl (e_move (v := .tup _) rfl) trivial ?_
           refine p_step rfl (e_ext (v := .lit _ _ _) rfl (by simp) rfl) trivial ?_
           refine p_step rfl (e_ext (v := .sc _) rfl (by simp) rfl) trivial ?_
           refine p_step rfl (e_assign (v := .lit _ _ _) rfl) trivial ?_
           refine p_step rfl (e_assign (v := .sc _) rfl) trivial ?_
           refine p_end (hK183 _ ?_); clear hK183 K183
           refine pwp_seq_gops rfl fun K184 hK184 => ?_
           refine g_begin ?_
           refine g_step rfl rfl rfl rfl (e_move (v := .sc _) rfl) trivial ?_
           refine g_step rfl rfl rfl rfl (e_move (v := .sc _) rfl) trivial ?_
           refine g_step rfl rfl rfl rfl (e_eq rfl rfl) trivial ?_
           refine g_step rfl rfl rfl rfl (e_move (v := .sc _) rfl) trivial ?_
           refine g_cases (fun hb185 => ?_) (fun hb185 => ?_)
           ·have hb185R := hb185; (try simp only [z1, z2, z3, z4, z5, z6, ne_eq, z7, z8, z9, z10, z11, z12] at hb185); (try (have hsh := shortB_iff hb185)); (try (have hok := stockE_ok hb185)); (try (have hm1 := mo_1 (m := m) hb185)); (try (have hm0 := move_ref (m := m) hb185)); (try (have hu0 := undE_0 hb185)); (try (have hu1 := undE_1 (by assumption) hb185)); (try (have hu2 := undE_2 (by assumption) hb185))
            refine g_step rfl rfl rfl rfl (e_move (v := .lit _ _ _) rfl) trivial ?_
            refine g_step rfl rfl rfl rfl (e_move (v := .lit _ _ _) rfl) trivial ?_
            refine g_call rfl rfl rfl rfl (.cons inn_lit (.cons inn_lit .nil)) (SameStock _ _ (Nat.le_trans (moveR_len xs m) (by decide))) ?_
            refine g_step rfl rfl rfl rfl (e_pickT (v := .sc _) rfl rfl) trivial ?_
            refine g_step rfl rfl rfl rfl (e_assign (v := .sc _) rfl) trivial ?_
            refine g_end (ds := [93, 94, 95]) rfl rfl (hK184 _ ?_); clear hK184 K184
            refine pwp_ret ?_
            refine end1 (v := .sc _) rfl ?_
            first
              | exact out_b rfl
              | (exfalso; omega)
              | (refine out_b ?_; simp; done)
              | exact absurd hu0.2 (by assumption)
              | exact absurd hu1.2 (by assumption)
              | (exfalso; rw [hu1] at *; omega)
              | (exfalso; rw [hu0.1] at *; omega)
              | (exfalso; rw [hu0.2] at *; simp_all; done)
              | (exfalso; rw [hu1.2] at *; simp_all; done)
              | (refine out_b ?_; simp [hm1]; done)
              | (refine out_b ?_; simp [hm0]; done)
              | (exfalso; simp_all; done)
              | (exfalso; simp_all; omega)
           ·have hb185R := hb185; (try simp only [z1, z2, z3, z4, z5, z6, ne_eq, z7, z8, z9, z10, z11, z12] at hb185); (try (have hsh := shortB_iff hb185)); (try (have hok := stockE_ok hb185)); (try (have hm1 := mo_1 (m := m) hb185)); (try (have hm0 := move_ref (m := m) hb185)); (try (have hu0 := undE_0 hb185)); (try (have hu1 := undE_1 (by assumption) hb185)); (try (have hu2 := undE_2 (by assumption) hb185))
            refine g_skip rfl rfl rfl ?_
            refine g_skip rfl rfl rfl ?_
            refine g_nocall rfl rfl rfl ?_
            refine g_step rfl rfl rfl rfl (e_pickF (v := .sc _) rfl rfl) trivial ?_
            refine g_step rfl rfl rfl rfl (e_assign (v := .sc _) rfl) trivial ?_
            refine g_end (ds := [93, 94, 95]) rfl rfl (hK184 _ ?_); clear hK184 K184
            refine pwp_ret ?_
            refine end1 (v := .sc _) rfl ?_
            first
              | exact out_b rfl
              | (exfalso; omega)
              | (refine out_b ?_; simp; done)
              | exact absurd hu0.2 (by assumption)
              | exact absurd hu1.2 (by assumption)
              | (exfalso; rw [hu1] at *; omega)
              | (exfalso; rw [hu0.1] at *; omega)
              | (exfalso; rw [hu0.2] at *; simp_all; done)
              | (exfalso; rw [hu1.2] at *; simp_all; done)
              | (refine out_b ?_; simp [hm1]; done)
              | (refine out_b ?_; simp [hm0]; done)
              | (exfalso; simp_all; done)
              | (exfalso; simp_all; omega)
        ·have hb172R := hb172; (try simp only [z1, z2, z3, z4, z5, z6, ne_eq, z7, z8, z9, z10, z11, z12] at hb172); (try (have hsh := shortB_iff hb172)); (try (have hok := stockE_ok hb172)); (try (have hm1 := mo_1 (m := m) hb172)); (try (have hm0 := move_ref (m := m) hb172)); (try (have hu0 := undE_0 hb172)); (try (have hu1 := undE_1 (by assumption) hb172)); (try (have hu2 := undE_2 (by assumption) hb172))
         refine g_skip rfl rfl rfl ?_
         refine g_skip rfl rfl rfl ?_
         refine g_nocall rfl rfl rfl ?_
         refine g_skip rfl rfl rfl ?_
         refine g_step rfl rfl rfl rfl (e_pickF (v := .sc _) rfl rfl) trivial ?_
         refine g_step rfl rfl rfl rfl (e_pickF (v := .sc _) rfl rfl) trivial ?_
         refine g_end (ds := [47, 48, 49, 50, 51, 52, 53, 56, 57, 58, 59, 60, 61, 62, 63]) (by kernel_rfl) rfl (hK139 _ ?_); clear hK139 K139
         refine pwp_seq_cond (t := false) rfl fun K186 hK186 => ⟨nofun, fun _ => ?_⟩
         refine pwp_skip ?_
         refine seq_norm (hK186 _ ?_); clear hK186 K186
         refine pwp_seq_plain rfl fun K187 hK187 => ?_
         refine p_step rfl (e_move (v := .lit _ _ _) rfl) trivial ?_
         refine p_step rfl (e_loadHA (cs := Movement.enc (m)) (n := 6) rfl ((hset_ne (key_ne rfl)).trans ((hset_ne (key_ne rfl)).trans (hset_self _ _ _))) (by kernel_rfl) (by kernel_rfl) (by kernel_rfl) (by exact Nat.zero_lt_one) (by decide) rfl) trivial ?_
         refine p_call rfl (.cons inn_lit (.cons (inn_agg (Movement.pure (m))) .nil)) (MoveS _ _ hsh.2.1 hsh.2.2 (by omega)) ?_
         refine p_step rfl (e_move (v := .tup _) rfl) trivial ?_
         refine p_step rfl (e_ext (v := .lit _ _ _) rfl (by simp) rfl) trivial ?_
         refine p_step rfl (e_ext (v := .sc _) rfl (by simp) rfl) trivial ?_
         refine p_step rfl (e_assign (v := .lit _ _ _) rfl) trivial ?_
         refine p_step rfl (e_assign (v := .sc _) rfl) trivial ?_
         refine p_end (hK187 _ ?_); clear hK187 K187
         refine pwp_seq_seq ?_
         refine pwp_seq_plain rfl fun K188 hK188 => ?_
         refine p_step rfl (e_move (v := .lit _ _ _) rfl) trivial ?_
         refine p_call rfl (.cons inn_lit .nil) (refCheckS _ hsh.2.1 hsh.2.2) ?_
         refine p_step rfl (e_assign (v := .sc _) rfl) trivial ?_
         refine p_end (hK188 _ ?_); clear hK188 K188
         refine pwp_seq_seq ?_
         refine pwp_seq_plain rfl fun K189 hK189 => ?_
         refine p_step rfl (e_move (v := .sc _) rfl) trivial ?_
         refine p_step rfl (e_ne rfl rfl) trivial ?_
         refine p_end (hK189 _ ?_); clear hK189 K189
         refine pwp_seq_cond rfl fun K190 hK190 => ⟨fun hb191 => ?_, fun hb191 => ?_⟩
         ·have hb191R := hb191; (try simp only [z1, z2, z3, z4, z5, z6, ne_eq, z7, z8, z9, z10, z11, z12] at hb191); (try (have hsh := shortB_iff hb191)); (try (have hok := stockE_ok hb191)); (try (have hm1 := mo_1 (m := m) hb191)); (try (have hm0 := move_ref (m := m) hb191)); (try (have hu0 := undE_0 hb191)); (try (have hu1 := undE_1 (by assumption) hb191)); (try (have hu2 := undE_2 (by assumption) hb191))
          refine pwp_seq_gops rfl fun K192 hK192 => ?_
          refine g_begin ?_
          refine g_step rfl rfl rfl rfl (e_move (v := .sc _) rfl) trivial ?_
          refine g_step rfl rfl rfl rfl (e_move (v := .sc _) rfl) trivial ?_
          refine g_step rfl rfl rfl rfl (e_eq rfl rfl) trivial ?_
          refine g_step rfl rfl rfl rfl (e_move (v := .sc _) rfl) trivial ?_
          refine g_cases (fun hb193 => ?_) (fun hb193 => ?_)
          ·have hb193R := hb193; (try simp only [z1, z2, z3, z4, z5, z6, ne_eq, z7, z8, z9, z10, z11, z12] at hb193); (try (have hsh := shortB_iff hb193)); (try (have hok := stockE_ok hb193)); (try (have hm1 := mo_1 (m := m) hb193)); (try (have hm0 := move_ref (m := m) hb193)); (try (have hu0 := undE_0 hb193)); (try (have hu1 := undE_1 (by assumption) hb193)); (try (have hu2 := undE_2 (by assumption) hb193))
           refine g_step rfl rfl rfl rfl (e_move (v := .lit _ _ _) rfl) trivial ?_
           refine g_step rfl rfl rfl rfl (e_len rfl (by kernel_rfl)) trivial ?_
           refine g_step rfl rfl rfl rfl (e_eq rfl rfl) trivial ?_
           refine g_step rfl rfl rfl rfl (e_pickT (v := .sc _) rfl rfl) trivial ?_
           refine g_step rfl rfl rfl rfl (e_assign (v := .sc _) rfl) trivial ?_
           refine g_end (ds := [79, 80, 81]) rfl rfl (hK192 _ ?_); clear hK192 K192
           refine pwp_ret ?_
           refine ret_seq ?_
           refine end1 (v := .sc _) rfl ?_
           first
             | exact out_b rfl
             | (exfalso; omega)
             | (refine out_b ?_; simp; done)
             | exact absurd hu0.2 (by assumption)
             | exact absurd hu1.2 (by assumption)
             | (exfalso; rw [hu1] at *; omega)
             | (exfalso; rw [hu0.1] at *; omega)
             | (exfalso; rw [hu0.2] at *; simp_all; done)
             | (exfalso; rw [hu1.2] at *; simp_all; done)
             | (refine out_b ?_; simp [hm1]; done)
             | (refine out_b ?_; simp [hm0]; done)
             | (exfalso; simp_all; done)
             | (exfalso; simp_all; omega)
          ·have hb193R := hb193; (try simp only [z1, z2, z3, z4, z5, z6, ne_eq, z7, z8, z9, z10, z11, z12] at hb193); (try (have hsh := shortB_iff hb193)); (try (have hok := stockE_ok hb193)); (try (have hm1 := mo_1 (m := m) hb193)); (try (have hm0 := move_ref (m := m) hb193)); (try (have hu0 := undE_0 hb193)); (try (have hu1 := undE_1 (by assumption) hb193)); (try (have hu2 := undE_2 (by assumption) hb193))
           refine g_skip rfl rfl rfl ?_
           refine g_skip rfl rfl rfl ?_
           refine g_skip rfl rfl rfl ?_
           refine g_step rfl rfl rfl rfl (e_pickF (v := .sc _) rfl rfl) trivial ?_
           refine g_step rfl rfl rfl rfl (e_assign (v := .sc _) rfl) trivial ?_
           refine g_end (ds := [79, 80, 81]) rfl rfl (hK192 _ ?_); clear hK192 K192
           refine pwp_ret ?_
           refine ret_seq ?_
           refine end1 (v := .sc _) rfl ?_
           first
             | exact out_b rfl
             | (exfalso; omega)
             | (refine out_b ?_; simp; done)
             | exact absurd hu0.2 (by assumption)
             | exact absurd hu1.2 (by assumption)
             | (exfalso; rw [hu1] at *; omega)
             | (exfalso; rw [hu0.1] at *; omega)
             | (exfalso; rw [hu0.2] at *; simp_all; done)
             | (exfalso; rw [hu1.2] at *; simp_all; done)
             | (refine out_b ?_; simp [hm1]; done)
             | (refine out_b ?_; simp [hm0]; done)
             | (exfalso; simp_all; done)
             | (exfalso; simp_all; omega)
         ·have hb191R := hb191; (try simp only [z1, z2, z3, z4, z5, z6, ne_eq, z7, z8, z9, z10, z11, z12] at hb191); (try (have hsh := shortB_iff hb191)); (try (have hok := stockE_ok hb191)); (try (have hm1 := mo_1 (m := m) hb191)); (try (have hm0 := move_ref (m := m) hb191)); (try (have hu0 := undE_0 hb191)); (try (have hu1 := undE_1 (by assumption) hb191)); (try (have hu2 := undE_2 (by assumption) hb191))
          refine pwp_skip ?_
          refine seq_norm (hK190 _ ?_); clear hK190 K190
          refine pwp_seq_plain rfl fun K194 hK194 => ?_
          refine p_step rfl (e_move (v := .lit _ _ _) rfl) trivial ?_
          refine p_step rfl (e_loadHA (cs := Movement.enc (m)) (n := 6) rfl ((hset_ne (key_ne rfl)).trans ((hset_ne (key_ne rfl)).trans (hset_self _ _ _))) (by kernel_rfl) (by kernel_rfl) (by kernel_rfl) (by exact Nat.zero_lt_one) (by decide) rfl) trivial ?_
          refine p_call rfl (.cons inn_lit (.cons (inn_agg (Movement.pure (m))) .nil)) (refMove _ _ hsh.2.1 (fun y hy => by have := hok.2 y hy; omega) (by omega)) ?_
          refine p_step rfl (e_move (v := .tup _) rfl) trivial ?_
          refine p_step rfl (e_ext (v := .lit _ _ _) rfl (by simp) rfl) trivial ?_
          refine p_step rfl (e_ext (v := .sc _) rfl (by simp) rfl) trivial ?_
          refine p_step rfl (e_assign (v := .lit _ _ _) rfl) trivial ?_
          refine p_step rfl (e_assign (v := .sc _) rfl) trivial ?_
          refine p_end (hK194 _ ?_); clear hK194 K194
          refine pwp_seq_gops rfl fun K195 hK195 => ?_
          refine g_begin ?_
          refine g_step rfl rfl rfl rfl (e_move (v := .sc _) rfl) trivial ?_
          refine g_step rfl rfl rfl rfl (e_move (v := .sc _) rfl) trivial ?_
          refine g_step rfl rfl rfl rfl (e_eq rfl rfl) trivial ?_
          refine g_step rfl rfl rfl rfl (e_move (v := .sc _) rfl) trivial ?_
          refine g_cases (fun hb196 => ?_) (fun hb196 => ?_)
          ·have hb196R := hb196; (try simp only [z1, z2, z3, z4, z5, z6, ne_eq, z7, z8, z9, z10, z11, z12] at hb196); (try (have hsh := shortB_iff hb196)); (try (have hok := stockE_ok hb196)); (try (have hm1 := mo_1 (m := m) hb196)); (try (have hm0 := move_ref (m := m) hb196)); (try (have hu0 := undE_0 hb196)); (try (have hu1 := undE_1 (by assumption) hb196)); (try (have hu2 := undE_2 (by assumption) hb196))
           refine g_step rfl rfl rfl rfl (e_move (v := .lit _ _ _) rfl) trivial ?_
           refine g_step rfl rfl rfl rfl (e_move (v := .lit _ _ _) rfl) trivial ?_
           refine g_call rfl rfl rfl rfl (.cons inn_lit (.cons inn_lit .nil)) (SameStock _ _ (Nat.le_trans (moveR_len xs m) (by decide))) ?_
           refine g_step rfl rfl rfl rfl (e_pickT (v := .sc _) rfl rfl) trivial ?_
           refine g_step rfl rfl rfl rfl (e_assign (v := .sc _) rfl) trivial ?_
           refine g_end (ds := [93, 94, 95]) rfl rfl (hK195 _ ?_); clear hK195 K195
           refine pwp_ret ?_
           refine end1 (v := .sc _) rfl ?_
           first
             | exact out_b rfl
             | (exfalso; omega)
             | (refine out_b ?_; simp; done)
             | exact absurd hu0.2 (by assumption)
             | exact absurd hu1.2 (by assumption)
             | (exfalso; rw [hu1] at *; omega)
             | (exfalso; rw [hu0.1] at *; omega)
             | (exfalso; rw [hu0.2] at *; simp_all; done)
             | (exfalso; rw [hu1.2] at *; simp_all; done)
             | (refine out_b ?_; simp [hm1]; done)
             | (refine out_b ?_; simp [hm0]; done)
             | (exfalso; simp_all; done)
             | (exfalso; simp_all; omega)
          ·have hb196R := hb196; (try simp only [z1, z2, z3, z4, z5, z6, ne_eq, z7, z8, z9, z10, z11, z12] at hb196); (try (have hsh := shortB_iff hb196)); (try (have hok := stockE_ok hb196)); (try (have hm1 := mo_1 (m := m) hb196)); (try (have hm0 := move_ref (m := m) hb196)); (try (have hu0 := undE_0 hb196)); (try (have hu1 := undE_1 (by assumption) hb196)); (try (have hu2 := undE_2 (by assumption) hb196))
           refine g_skip rfl rfl rfl ?_
           refine g_skip rfl rfl rfl ?_
           refine g_nocall rfl rfl rfl ?_
           refine g_step rfl rfl rfl rfl (e_pickF (v := .sc _) rfl rfl) trivial ?_
           refine g_step rfl rfl rfl rfl (e_assign (v := .sc _) rfl) trivial ?_
           refine g_end (ds := [93, 94, 95]) rfl rfl (hK195 _ ?_); clear hK195 K195
           refine pwp_ret ?_
           refine end1 (v := .sc _) rfl ?_
           first
             | exact out_b rfl
             | (exfalso; omega)
             | (refine out_b ?_; simp; done)
             | exact absurd hu0.2 (by assumption)
             | exact absurd hu1.2 (by assumption)
             | (exfalso; rw [hu1] at *; omega)
             | (exfalso; rw [hu0.1] at *; omega)
             | (exfalso; rw [hu0.2] at *; simp_all; done)
             | (exfalso; rw [hu1.2] at *; simp_all; done)
             | (refine out_b ?_; simp [hm1]; done)
             | (refine out_b ?_; simp [hm0]; done)
             | (exfalso; simp_all; done)
             | (exfalso; simp_all; omega)

end Go.Proofs.YtigdmkhdmbbfiaaDoor
