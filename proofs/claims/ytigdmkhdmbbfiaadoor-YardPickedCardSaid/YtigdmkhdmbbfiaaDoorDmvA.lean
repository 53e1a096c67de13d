import Derived.Test.YtigdmkhdmbbfiaaDoorStoB
import Derived.Test.YtigdmkhdmbbfiaaDoorAwake
/- Movements in a stock. No conditions. -/
set_option linter.unusedSimpArgs false
set_option linter.unusedVariables false
set_option maxRecDepth 100000
set_option maxHeartbeats 8000000
namespace Go.Proofs.YtigdmkhdmbbfiaaDoor
open Go Go.Pv

/-! ### A movement in the store -/
theorem sumS_app : ∀ (l l' : List Stock) (m : Sto), sumS m (l ++ l') = sumS (sumS m l) l'
  | [], _, _ => rfl
  | x :: l, l', m => by simp only [List.cons_append, sumS]; exact sumS_app l l' _
theorem cntS_app (k : Kx) : ∀ (l l' : List Stock), cntS k (l ++ l') = cntS k l + cntS k l'
  | [], l' => by simp [cntS]
  | x :: l, l' => by simp only [List.cons_append, cntS]; rw [cntS_app k l l']; omega
theorem getS_sum0 (k : Kx) (l : List Stock) : getS k (sumS [] l) = cntS k l := by
  rw [getS_sum]; simp [getS, aGet]
def extF (m : Movement) : List Stock := if m.fro ≠ -1 then [⟨m.part, m.fro, m.before, 0 - m.count⟩] else []
def extT (m : Movement) : List Stock := if m.til ≠ -1 then [⟨m.part, m.til, m.after, m.count⟩] else []
/-- Are there too few parts? -/
def lack (xs : List Stock) (m : Movement) : Prop := m.fro ≠ -1 ∧ cntS ⟨m.part, m.fro, m.before⟩ xs < m.count
instance (xs : List Stock) (m : Movement) : Decidable (lack xs m) := inferInstanceAs (Decidable (_ ∧ _))
def mvX (s : Sto) (m : Movement) : Int × Sto :=
  if m.fro ≠ -1 ∧ (aGet (⟨m.part, m.fro, m.before⟩ : Shelf) s).getD 0 < m.count then (22, s) else (0, sumS s (extF m ++ extT m))
theorem mx_22 {s : Sto} {m : Movement} (h : ¬ m.fro = -1) (h2 : (aGet (⟨m.part, m.fro, m.before⟩ : Shelf) s).getD 0 < m.count) : mvX s m = (22, s) := if_pos ⟨h, h2⟩
theorem mx_ft {s : Sto} {m : Movement} (h : ¬ m.fro = -1) (h2 : ¬ (aGet (⟨m.part, m.fro, m.before⟩ : Shelf) s).getD 0 < m.count) (h3 : ¬ m.til = -1) : mvX s m = (0, aSet (⟨m.part, m.til, m.after⟩ : Shelf) ((aGet (⟨m.part, m.til, m.after⟩ : Shelf) (aSet (⟨m.part, m.fro, m.before⟩ : Shelf) ((aGet (⟨m.part, m.fro, m.before⟩ : Shelf) s).getD 0 - m.count) s)).getD 0 + m.count) (aSet (⟨m.part, m.fro, m.before⟩ : Shelf) ((aGet (⟨m.part, m.fro, m.before⟩ : Shelf) s).getD 0 - m.count) s)) := by
  rw [mvX, if_neg (fun h4 => h2 h4.2), extF, if_pos h, extT, if_pos h3]
  simp only [List.cons_append, List.nil_append, sumS, getS, keyS]
  rw [show (aGet (⟨m.part, m.fro, m.before⟩ : Shelf) s).getD 0 + (0 - m.count) = (aGet (⟨m.part, m.fro, m.before⟩ : Shelf) s).getD 0 - m.count by omega]
theorem mx_f {s : Sto} {m : Movement} (h : ¬ m.fro = -1) (h2 : ¬ (aGet (⟨m.part, m.fro, m.before⟩ : Shelf) s).getD 0 < m.count) (h3 : m.til = -1) : mvX s m = (0, aSet (⟨m.part, m.fro, m.before⟩ : Shelf) ((aGet (⟨m.part, m.fro, m.before⟩ : Shelf) s).getD 0 - m.count) s) := by
  rw [mvX, if_neg (fun h4 => h2 h4.2), extF, if_pos h, extT, if_neg (by simpa using h3)]
  simp only [List.cons_append, List.nil_append, sumS, getS, keyS]
  rw [show (aGet (⟨m.part, m.fro, m.before⟩ : Shelf) s).getD 0 + (0 - m.count) = (aGet (⟨m.part, m.fro, m.before⟩ : Shelf) s).getD 0 - m.count by omega]
theorem mx_t {s : Sto} {m : Movement} (h : m.fro = -1) (h3 : ¬ m.til = -1) : mvX s m = (0, aSet (⟨m.part, m.til, m.after⟩ : Shelf) ((aGet (⟨m.part, m.til, m.after⟩ : Shelf) s).getD 0 + m.count) s) := by
  rw [mvX, if_neg (fun h4 => h4.1 h), extF, if_neg (by simpa using h), extT, if_pos h3]
  simp only [List.nil_append, sumS, getS, keyS]
theorem mx_0 {s : Sto} {m : Movement} (h : m.fro = -1) (h3 : m.til = -1) : mvX s m = (0, s) := by
  rw [mvX, if_neg (fun h4 => h4.1 h), extF, if_neg (by simpa using h), extT, if_neg (by simpa using h3)]
  rfl
def MR (s : Sto) (m : Movement) (q : Nat) (v : PV) (h : Heap) : Prop := v = .int (mvX s m).1 ∧ MapAt h (6, q) (entsOf kx PV.int (mvX s m).2)
theorem mr_of {s s' : Sto} {m : Movement} {q : Nat} {h : Heap} {z : Int} (he : mvX s m = (z, s')) (hm : MapAt h (6, q) (entsOf kx PV.int s')) : MR s m q (.int z) h := ⟨by rw [he], by rw [he]; exact hm⟩
theorem mvX_sum (xs : List Stock) (m : Movement) : mvX (sumS [] xs) m = if lack xs m then (22, sumS [] xs) else (0, sumS [] (xs ++ (extF m ++ extT m))) := by
  have h1 : (aGet (⟨m.part, m.fro, m.before⟩ : Shelf) (sumS [] xs)).getD 0 = cntS ⟨m.part, m.fro, m.before⟩ xs := getS_sum0 _ _
  unfold mvX
  rw [h1, ← sumS_app]
  by_cases h : lack xs m
  · rw [if_pos h, if_pos (show _ ∧ _ from h)]
  · rw [if_neg h, if_neg (show ¬ (_ ∧ _) from h)]
theorem ext_size {m : Movement} {n : Nat} (h : m.part.size ≤ n) : ∀ x ∈ extF m ++ extT m, x.part.size ≤ n := fun x hx => by
  rcases List.mem_append.1 hx with hx | hx
  · unfold extF at hx
    split at hx
    · simp only [List.mem_singleton] at hx; subst hx; exact h
    · simp at hx
  · unfold extT at hx
    split at hx
    · simp only [List.mem_singleton] at hx; subst hx; exact h
    · simp at hx
theorem ext_len (m : Movement) : (extF m ++ extT m).length ≤ 2 := by
  rw [List.length_append]
  have h1 : (extF m).length ≤ 1 := by unfold extF; split <;> simp
  have h2 : (extT m).length ≤ 1 := by unfold extT; split <;> simp
  omega
theorem mvX_size {xs : List Stock} {m : Movement} (hs : ∀ x ∈ xs, x.part.size ≤ 30) (hm : m.part.size ≤ 30) : ∀ e ∈ (mvX (sumS [] xs) m).2, e.1.part.size ≤ 1000000 := by
  rw [mvX_sum]
  split
  · exact sumS_size hs
  · refine sumS_size fun x hx => ?_
    rcases List.mem_append.1 hx with hx | hx
    · exact hs x hx
    · exact ext_size hm x hx
theorem mvX_len {xs : List Stock} {m : Movement} (hl : xs.length ≤ 220) : (mvX (sumS [] xs) m).2.length ≤ 1000000 := by
  rw [mvX_sum]
  have h1 := ext_len m
  split
  · have := sumS_len xs []; simp only [List.length_nil] at this; show (sumS [] xs).length ≤ _; omega
  · have := sumS_len (xs ++ (extF m ++ extT m)) []; simp only [List.length_nil, List.length_append] at this h1; show (sumS [] (xs ++ (extF m ++ extT m))).length ≤ _; omega
/-- The stock behind a movement, or the error. -/
def moveR (xs : List Stock) (m : Movement) : Int × List Stock :=
  if ¬ stockE xs = 0 then (stockE xs, []) else if ¬ mvE m = 0 then (mvE m, []) else if lack xs m then (22, []) else listS (sumS [] (xs ++ (extF m ++ extT m)))
theorem mo_1 {xs : List Stock} {m : Movement} (h : ¬ stockE xs = 0) : moveR xs m = (stockE xs, []) := if_pos h
theorem mo_2 {xs : List Stock} {m : Movement} (h : stockE xs = 0) (h2 : ¬ mvE m = 0) : moveR xs m = (mvE m, []) := by rw [moveR, if_neg (by simpa using h), if_pos h2]
theorem mo_3 {xs : List Stock} {m : Movement} (h : stockE xs = 0) (h2 : mvE m = 0) (h3 : ¬ (mvX (sumS [] xs) m).1 = 0) : moveR xs m = ((mvX (sumS [] xs) m).1, []) := by
  rw [moveR, if_neg (by simpa using h), if_neg (by simpa using h2)]
  rw [mvX_sum] at h3 ⊢
  split
  · rfl
  · rename_i h4; rw [if_neg h4] at h3; exact absurd rfl h3
theorem mo_4 {xs : List Stock} {m : Movement} (h : stockE xs = 0) (h2 : mvE m = 0) (h3 : (mvX (sumS [] xs) m).1 = 0) : moveR xs m = ((listS (mvX (sumS [] xs) m).2).1, (listS (mvX (sumS [] xs) m).2).2) := by
  rw [moveR, if_neg (by simpa using h), if_neg (by simpa using h2)]
  rw [mvX_sum] at h3 ⊢
  split
  · rename_i h4; rw [if_pos h4] at h3; cases h3
  · rfl
/-- The same, as the reference finds it. -/
def refMoveR (xs : List Stock) (m : Movement) : Int × List Stock :=
  if ¬ mvE m = 0 then (mvE m, []) else if lack xs m then (22, []) else settS (putF [] (xs ++ (extF m ++ extT m)))
theorem rm_1 {xs : List Stock} {m : Movement} (h2 : ¬ mvE m = 0) : refMoveR xs m = (mvE m, []) := if_pos h2
theorem rm_2 {xs : List Stock} {m : Movement} (h2 : mvE m = 0) (h3 : 0 ≤ m.fro) (h4 : cntA ⟨m.part, m.fro, m.before⟩ 0 xs < m.count) : refMoveR xs m = (22, []) := by
  rw [cntA_eq, Int.zero_add] at h4
  rw [refMoveR, if_neg (by simpa using h2), if_pos ⟨by omega, h4⟩]
theorem rm_3 {xs ys : List Stock} {m : Movement} (h2 : mvE m = 0) (h4 : ¬ (0 ≤ m.fro ∧ cntA ⟨m.part, m.fro, m.before⟩ 0 xs < m.count)) (hy : ys = xs ++ (extF m ++ extT m)) : refMoveR xs m = ((settS (putF [] ys)).1, (settS (putF [] ys)).2) := by
  rw [cntA_eq, Int.zero_add] at h4
  have hr := (mvE_ok h2).2.1; unfold rngQ at hr
  rw [refMoveR, if_neg (by simpa using h2), if_neg (fun h5 => h4 ⟨by have := h5.1; omega, h5.2⟩), hy]
theorem ex_ft {m : Movement} (h : 0 ≤ m.fro) (h2 : 0 ≤ m.til) : extF m ++ extT m = [⟨m.part, m.fro, m.before, (0 - m.count)⟩] ++ [⟨m.part, m.til, m.after, m.count⟩] := by rw [extF, if_pos (by omega), extT, if_pos (by omega)]
theorem ex_f {m : Movement} (h : 0 ≤ m.fro) (h2 : m.til = -1) : extF m ++ extT m = [⟨m.part, m.fro, m.before, (0 - m.count)⟩] := by rw [extF, if_pos (by omega), extT, if_neg (by omega), List.append_nil]
theorem ex_t {m : Movement} (h : m.fro = -1) (h2 : 0 ≤ m.til) : extF m ++ extT m = [⟨m.part, m.til, m.after, m.count⟩] := by rw [extF, if_neg (by omega), extT, if_pos (by omega), List.nil_append]
theorem ex_0 {m : Movement} (h : m.fro = -1) (h2 : m.til = -1) : extF m ++ extT m = [] := by rw [extF, if_neg (by omega), extT, if_neg (by omega)]; rfl
theorem settS_listS2 {l : List Stock} (h : ∀ k, 0 ≤ cntS k l) : settS (putF [] l) = listS (sumS [] l) := by
  unfold settS listS
  rw [putF_eq, setG_lstG]
  intro k
  rw [getS_sum0]; exact h k
theorem ext_0 {xs : List Stock} {m : Movement} (h : ∀ x ∈ xs, 0 ≤ x.count) (hc : 1 ≤ m.count) (hl : ¬ lack xs m) (k : Kx) : 0 ≤ cntS k (xs ++ (extF m ++ extT m)) := by
  have h1 := cntS_0 (k := k) h
  rw [cntS_app, cntS_app]
  have h2 : 0 ≤ cntS k (extT m) := cntS_0 fun x hx => by
    unfold extT at hx
    split at hx
    · simp only [List.mem_singleton] at hx; subst hx; show 0 ≤ m.count; omega
    · simp at hx
  unfold extF
  split
  · rename_i h3
    have h4 : ¬ cntS ⟨m.part, m.fro, m.before⟩ xs < m.count := fun h5 => hl ⟨h3, h5⟩
    by_cases h5 : (⟨m.part, m.fro, m.before⟩ : Kx) = k
    · have h6 : cntS k [(⟨m.part, m.fro, m.before, 0 - m.count⟩ : Stock)] = 0 - m.count := by
        rw [cntS, if_pos (show keyS (⟨m.part, m.fro, m.before, 0 - m.count⟩ : Stock) = k from h5)]; simp [cntS]
      rw [h6]; rw [h5] at h4; omega
    · have h6 : cntS k [(⟨m.part, m.fro, m.before, 0 - m.count⟩ : Stock)] = 0 := by
        rw [cntS, if_neg (show ¬ keyS (⟨m.part, m.fro, m.before, 0 - m.count⟩ : Stock) = k from h5)]; simp [cntS]
      rw [h6]; omega
  · simp only [cntS]; omega
theorem move_ref {xs : List Stock} {m : Movement} (h : stockE xs = 0) : moveR xs m = refMoveR xs m := by
  rw [moveR, refMoveR, if_neg (by simpa using h)]
  split
  · rfl
  · rename_i h2
    split
    · rfl
    · rename_i h3
      have hr := (mvE_ok (by simpa using h2)).2.1; unfold rngQ at hr
      rw [settS_listS2 (ext_0 (fun x hx => ((stockE_ok h).2 x hx).2.2.1) (by omega) h3)]
/-! Bounds of the reference's sums -/
theorem putS_cts {x : Stock} {A B : Int} : ∀ {l : List Stock}, (∀ e ∈ l, -A ≤ e.count ∧ e.count ≤ A) → 0 ≤ A → (-B ≤ x.count ∧ x.count ≤ B) → 0 ≤ B → ∀ e ∈ putS x l, -(A + B) ≤ e.count ∧ e.count ≤ A + B
  | [], _, hA, hx, hB, e, he => by
    simp only [putS, List.mem_singleton] at he; subst he; omega
  | y :: l, h, hA, hx, hB, e, he => by
    have hy := h y List.mem_cons_self
    unfold putS at he
    cases h1 : befS y x with
    | true =>
      rw [h1, cond_true] at he
      rcases List.mem_cons.1 he with rfl | he
      · omega
      · exact putS_cts (fun e he => h e (List.mem_cons_of_mem _ he)) hA hx hB e he
    | false =>
      rw [h1, cond_false] at he
      cases h2 : befS x y with
      | true =>
        rw [h2, cond_true] at he
        rcases List.mem_cons.1 he with rfl | he
        · omega
        · have := h e he; omega
      | false =>
        rw [h2, cond_false] at he
        rcases List.mem_cons.1 he with rfl | he
        · show -(A + B) ≤ x.count + y.count ∧ x.count + y.count ≤ A + B; omega
        · have := h e (List.mem_cons_of_mem _ he); omega
theorem putF_ctsG : ∀ (l out : List Stock) (A : Int), 0 ≤ A → (∀ e ∈ out, -A ≤ e.count ∧ e.count ≤ A) → (∀ x ∈ l, -1000000 ≤ x.count ∧ x.count ≤ 1000000) → ∀ e ∈ putF out l, -(A + 1000000 * (l.length : Int)) ≤ e.count ∧ e.count ≤ A + 1000000 * (l.length : Int)
  | [], out, A, hA, h, _, e, he => by simp only [putF] at he; simpa using h e he
  | x :: l, out, A, hA, h, hl, e, he => by
    simp only [putF] at he
    have h1 := putF_ctsG l (putS x out) (A + 1000000) (by omega) (putS_cts h hA (hl x List.mem_cons_self) (by omega)) (fun y hy => hl y (List.mem_cons_of_mem _ hy)) e he
    simp only [List.length_cons, Int.natCast_add, Int.natCast_one]
    omega
theorem PutF (xs : List Stock) (x : Stock) (hl : xs.length ≤ 300) (hb : ∀ y ∈ xs, -1000000 ≤ y.count ∧ y.count ≤ 1000000) (hx : -1000000 ≤ x.count ∧ x.count ≤ 1000000) : PCalls Tryd.prog 37 [.lit true 4 ((putF [] xs).map Stock.enc), .agg x.enc] (.lit false 4 ((putF [] (xs ++ [x])).map Stock.enc)) := by
  rw [putF_snoc]
  refine Put (putF [] xs) x ?_ (by omega) fun e he => ?_
  · have := putF_len xs []; simp only [List.length_nil] at this; omega
  · have := putF_ctsG xs [] 0 (Int.le_refl _) (by simp) hb e he; omega
theorem bd_snoc {xs : List Stock} {x : Stock} (h : ∀ y ∈ xs, -1000000 ≤ y.count ∧ y.count ≤ 1000000) (hx : -1000000 ≤ x.count ∧ x.count ≤ 1000000) : ∀ y ∈ xs ++ [x], -1000000 ≤ y.count ∧ y.count ≤ 1000000 := fun y hy => by
  rcases List.mem_append.1 hy with hy | hy
  · exact h y hy
  · simp only [List.mem_singleton] at hy; subst hy; exact hx

theorem frH35 : (inFrame Tryd.f35.ntmps (Tryd.f35.body.getD .skip) && Tryd.f35.results.toList.all (resScope Tryd.f35.ntmps)) = true := by kernel_rfl
theorem storeMove (s : Sto) (m : Movement) (q : Nat) (h0 : Heap) (c0 : Nat → Nat) (hm0 : MapAt h0 (6, q) (entsOf kx PV.int s)) (hbd : ∀ k, 0 ≤ getS k s ∧ getS k s ≤ 1000000000) (hmc : 1 ≤ m.count ∧ m.count ≤ 1000000) : HCallsR Tryd.prog 35 [.map (6, q), .agg m.enc] h0 c0 (fun v h _ => MR s m q v h) := by
  refine HCallsR.of_code Tryd.func35 rfl rfl (by kernel_rfl) mixed frH35 (by show _ ≤ 47; simp) ?_
  have hb1 : 0 ≤ ((aGet (⟨m.part, m.fro, m.before⟩ : Shelf) s).getD 0) ∧ ((aGet (⟨m.part, m.fro, m.before⟩ : Shelf) s).getD 0) ≤ 1000000000 := hbd _
  have hb2 : 0 ≤ ((aGet (⟨m.part, m.til, m.after⟩ : Shelf) s).getD 0) ∧ ((aGet (⟨m.part, m.til, m.after⟩ : Shelf) s).getD 0) ≤ 1000000000 := hbd _
  have hb3 : -1000000000 ≤ ((aGet (⟨m.part, m.til, m.after⟩ : Shelf) (aSet (⟨m.part, m.fro, m.before⟩ : Shelf) (((aGet (⟨m.part, m.fro, m.before⟩ : Shelf) s).getD 0) - m.count) s)).getD 0) ∧ ((aGet (⟨m.part, m.til, m.after⟩ : Shelf) (aSet (⟨m.part, m.fro, m.before⟩ : Shelf) (((aGet (⟨m.part, m.fro, m.before⟩ : Shelf) s).getD 0) - m.count) s)).getD 0) ≤ 1000000000 := by have := getS_aSet (⟨m.part, m.fro, m.before⟩ : Shelf) (⟨m.part, m.til, m.after⟩ : Shelf) (((aGet (⟨m.part, m.fro, m.before⟩ : Shelf) s).getD 0) - m.count) s; unfold getS at this; rw [this]; split <;> omega
  refine pwp_seq_plain rfl fun K1 hK1 => ?_
  refine p_new rfl (e_box (n := 6) rfl rfl) ⟨rfl, by decide⟩ ?_
  refine p_step rfl (e_assign (v := .sc _) rfl) trivial ?_
  refine p_end (hK1 _ ?_); clear hK1 K1
  refine pwp_seq_seq ?_
  refine pwp_seq_plain rfl fun K2 hK2 => ?_
  refine p_step rfl (e_faP (pl := [(0, 1, false), (1, 1, false), (2, 1, false), (3, 1, false), (4, 1, false), (5, 1, false)]) rfl (by kernel_rfl) (by kernel_rfl) (by decide) rfl) trivial ?_
  refine p_step rfl (e_loadH (v := .sc _) rfl (hset_self _ _ _) (by kernel_rfl) (by kernel_rfl) (by kernel_rfl) (by exact Nat.zero_lt_one) (by decide) rfl) trivial ?_
  refine p_step rfl (e_ne rfl rfl) trivial ?_
  refine p_end (hK2 _ ?_); clear hK2 K2
  refine pwp_seq_cond rfl fun K3 hK3 => ⟨fun hb4 => ?_, fun hb4 => ?_⟩
  ·have hb4R := hb4; try simp only [z1, z2, z3, z4, z5, z6, ne_eq, z7, z8, z9, z10, z11, z12] at hb4
   refine pwp_seq_plain rfl fun K5 hK5 => ?_
   refine p_step rfl (e_faP (pl := [(0, 1, false), (1, 1, false), (2, 1, false), (3, 1, false), (4, 1, false), (5, 1, false)]) rfl (by kernel_rfl) (by kernel_rfl) (by decide) rfl) trivial ?_
   refine p_step rfl (e_loadH (v := .sc _) rfl (hset_self _ _ _) (by kernel_rfl) (by kernel_rfl) (by kernel_rfl) (by exact Nat.zero_lt_one) (by decide) rfl) trivial ?_
   refine p_step rfl (e_faP (pl := [(0, 1, false), (1, 1, false), (2, 1, false), (3, 1, false), (4, 1, false), (5, 1, false)]) rfl (by kernel_rfl) (by kernel_rfl) (by decide) rfl) trivial ?_
   refine p_step rfl (e_loadH (v := .sc _) rfl (hset_self _ _ _) (by kernel_rfl) (by kernel_rfl) (by kernel_rfl) (by exact Nat.zero_lt_one) (by decide) rfl) trivial ?_
   refine p_step rfl (e_faP (pl := [(0, 1, false), (1, 1, false), (2, 1, false), (3, 1, false), (4, 1, false), (5, 1, false)]) rfl (by kernel_rfl) (by kernel_rfl) (by decide) rfl) trivial ?_
   refine p_step rfl (e_loadH (v := .sc _) rfl (hset_self _ _ _) (by kernel_rfl) (by kernel_rfl) (by kernel_rfl) (by exact Nat.zero_lt_one) (by decide) rfl) trivial ?_
   refine p_step rfl (e_build (cs := Shelf.enc (⟨m.part, m.fro, m.before⟩ : Shelf)) (zs := [.str ByteArray.empty, .int 0, .int 0]) (pl := [(0, 1, false), (1, 1, false), (2, 1, false)]) (by kernel_rfl) (by kernel_rfl) (by kernel_rfl) rfl rfl (by exact ⟨by decide, rfl, Nat.le_of_ble_eq_true rfl, rfl, ⟨by decide, rfl, Nat.le_of_ble_eq_true rfl, rfl, ⟨by decide, rfl, Nat.le_of_ble_eq_true rfl, rfl, trivial⟩⟩⟩) rfl) trivial ?_
   refine p_new rfl (e_alloc (cs := [.str ByteArray.empty, .int 0, .int 0]) (n := 3) (by kernel_rfl) rfl (by decide)) (ob_alloc (by decide)) ?_
   refine p_store rfl (e_storeA rfl (hset_self _ _ _) rfl rfl rfl (by kernel_rfl) rfl (by kernel_rfl)) trivial ?_
   refine p_end (hK5 _ ?_); clear hK5 K5
   refine pwp_seq_seq ?_
   refine pwp_seq_gops rfl fun K6 hK6 => ?_
   refine g_begin ?_
   refine g_step rfl rfl rfl rfl (e_move (v := .map _) rfl) trivial ?_
   refine g_step rfl rfl rfl rfl (e_loadHA (cs := Shelf.enc ((⟨m.part, m.fro, m.before⟩ : Shelf))) (n := 3) rfl (hset_self _ _ _) (by kernel_rfl) (by kernel_rfl) (by kernel_rfl) (by exact Nat.zero_lt_one) (by decide) rfl) trivial ?_
   refine g_step rfl rfl rfl rfl (e_look (kt := 93) (et := 3) (f := kx) (g := PV.int) (a := (⟨m.part, m.fro, m.before⟩ : Shelf)) (l := s) (z := 0) kx_eq kx_ok rfl rfl (MapAt.keep hm0 ((hset_ne (key_ne rfl)).trans ((hset_ne (key_ne rfl)).trans ((hset_ne (key_ne rfl)).trans (rfl))))) (by kernel_rfl) (by kernel_rfl) (by first | rfl | kernel_rfl)) trivial ?_
   refine g_step rfl rfl rfl rfl (e_faP (pl := [(0, 1, false), (1, 1, false), (2, 1, false), (3, 1, false), (4, 1, false), (5, 1, false)]) rfl (by kernel_rfl) (by kernel_rfl) (by decide) rfl) trivial ?_
   refine g_step rfl rfl rfl rfl (e_loadH (v := .sc _) rfl ((hset_ne (key_ne rfl)).trans ((hset_ne (key_ne rfl)).trans (hset_self _ _ _))) (by kernel_rfl) (by kernel_rfl) (by kernel_rfl) (by exact Nat.zero_lt_one) (by decide) rfl) trivial ?_
   refine g_step rfl rfl rfl rfl (e_lt rfl rfl) trivial ?_
   refine g_end (ds := []) (by kernel_rfl) rfl (hK6 _ ?_); clear hK6 K6
   refine pwp_seq_cond rfl fun K7 hK7 => ⟨fun hb8 => ?_, fun hb8 => ?_⟩
   ·have hb8R := hb8; try simp only [z1, z2, z3, z4, z5, z6, ne_eq, z7, z8, z9, z10, z11, z12] at hb8
    refine pwp_seq_plain rfl fun K9 hK9 => ?_
    refine p_step rfl (e_assign (v := .sc _) rfl) trivial ?_
    refine p_end (hK9 _ ?_); clear hK9 K9
    refine pwp_ret ?_
    refine ret_seq ?_
    refine ret_seq ?_
    refine end1 (v := .sc _) rfl ?_
    exact mr_of (mx_22 (by assumption) (by omega)) (MapAt.keep hm0 ((hset_ne (key_ne rfl)).trans ((hset_ne (key_ne rfl)).trans ((hset_ne (key_ne rfl)).trans (rfl)))))
   have hb8R := hb8; try simp only [z1, z2, z3, z4, z5, z6, ne_eq, z7, z8, z9, z10, z11, z12] at hb8
   refine pwp_skip ?_
   refine seq_norm (hK7 _ ?_); clear hK7 K7
   refine pwp_gops rfl fun K10 hK10 => ?_
   refine s_begin ?_
   refine s_step [] (by simp) rfl rfl rfl rfl (e_move (v := .map _) rfl) trivial ?_
   refine s_step [5] (by simp) rfl rfl rfl rfl (e_loadHA (cs := Shelf.enc ((⟨m.part, m.fro, m.before⟩ : Shelf))) (n := 3) rfl (hset_self _ _ _) (by kernel_rfl) (by kernel_rfl) (by kernel_rfl) (by exact Nat.zero_lt_one) (by decide) rfl) trivial ?_
   refine s_step [6] (by simp) rfl rfl rfl rfl (e_look (kt := 93) (et := 3) (f := kx) (g := PV.int) (a := (⟨m.part, m.fro, m.before⟩ : Shelf)) (l := s) (z := 0) kx_eq kx_ok rfl rfl (MapAt.keep hm0 ((hset_ne (key_ne rfl)).trans ((hset_ne (key_ne rfl)).trans ((hset_ne (key_ne rfl)).trans (rfl))))) (by kernel_rfl) (by kernel_rfl) (by first | rfl | kernel_rfl)) trivial ?_
   refine s_step [] (by simp) rfl rfl rfl rfl (e_faP (pl := [(0, 1, false), (1, 1, false), (2, 1, false), (3, 1, false), (4, 1, false), (5, 1, false)]) rfl (by kernel_rfl) (by kernel_rfl) (by decide) rfl) trivial ?_
   refine s_step [3] (by simp) rfl rfl rfl rfl (e_loadH (v := .sc _) rfl ((hset_ne (key_ne rfl)).trans ((hset_ne (key_ne rfl)).trans (hset_self _ _ _))) (by kernel_rfl) (by kernel_rfl) (by kernel_rfl) (by exact Nat.zero_lt_one) (by decide) rfl) trivial ?_
   refine s_step [] (by simp) rfl rfl rfl rfl (e_sub rfl rfl (by omega)) trivial ?_
   refine s_mentry (kt := 93) (et := 3) (m := 6) (f := kx) (g := PV.int) (a := (⟨m.part, m.fro, m.before⟩ : Shelf)) (l := s) (z := 0) kx_eq kx_ok rfl rfl rfl rfl rfl (MapAt.keep hm0 ((hset_ne (key_ne rfl)).trans ((hset_ne (key_ne rfl)).trans ((hset_ne (key_ne rfl)).trans (rfl))))) (by kernel_rfl) (by kernel_rfl) (by first | rfl | kernel_rfl) (fun _ => rfl) fun h11 sp12 hst13 hfr14 => ?_
   have ho15 := (hfr14 (3, _) (key_ne rfl)).trans ((hset_ne (key_ne rfl)).trans ((hset_ne (key_ne rfl)).trans (hset_self _ _ _)))
   have ho16 := (hfr14 (5, _) (key_ne rfl)).trans (hset_self _ _ _)
   refine s_step [] (by simp) rfl rfl rfl rfl (e_ext (v := .sc _) rfl (by simp) rfl) trivial ?_
   refine s_estore (f := kx) (g := PV.int) (a := (⟨m.part, m.fro, m.before⟩ : Shelf)) (b := (((aGet (⟨m.part, m.fro, m.before⟩ : Shelf) s).getD 0) - m.count)) (u := ((aGet (⟨m.part, m.fro, m.before⟩ : Shelf) s).getD 0)) (l := s) rfl rfl rfl rfl hst13 rfl fun h17 hm18 hfr19 => ?_
   have ho20 := (hfr19 (3, _) (key_ne rfl)).trans ho15
   have ho21 := (hfr19 (5, _) (key_ne rfl)).trans ho16
   refine s_end (ds := []) (by kernel_rfl) (by kernel_rfl) (hK10 _ ?_); clear hK10 K10
   refine seq_norm (hK3 _ ?_); clear hK3 K3
   refine pwp_seq_seq ?_
   refine pwp_seq_plain rfl fun K22 hK22 => ?_
   refine p_step rfl (e_faP (pl := [(0, 1, false), (1, 1, false), (2, 1, false), (3, 1, false), (4, 1, false), (5, 1, false)]) rfl (by kernel_rfl) (by kernel_rfl) (by decide) rfl) trivial ?_
   refine p_step rfl (e_loadH (v := .sc _) rfl ho20 (by kernel_rfl) (by kernel_rfl) (by kernel_rfl) (by exact Nat.zero_lt_one) (by decide) rfl) trivial ?_
   refine p_step rfl (e_ne rfl rfl) trivial ?_
   refine p_end (hK22 _ ?_); clear hK22 K22
   refine pwp_seq_cond rfl fun K23 hK23 => ⟨fun hb24 => ?_, fun hb24 => ?_⟩
   ·have hb24R := hb24; try simp only [z1, z2, z3, z4, z5, z6, ne_eq, z7, z8, z9, z10, z11, z12] at hb24
    refine pwp_gops rfl fun K25 hK25 => ?_
    refine s_begin ?_
    refine s_step [] (by simp) rfl rfl rfl rfl (e_move (v := .map _) rfl) trivial ?_
    refine s_step [] (by simp) rfl rfl rfl rfl (e_faP (pl := [(0, 1, false), (1, 1, false), (2, 1, false), (3, 1, false), (4, 1, false), (5, 1, false)]) rfl (by kernel_rfl) (by kernel_rfl) (by decide) rfl) trivial ?_
    refine s_step [3] (by simp) rfl rfl rfl rfl (e_loadH (v := .sc _) rfl ho20 (by kernel_rfl) (by kernel_rfl) (by kernel_rfl) (by exact Nat.zero_lt_one) (by decide) rfl) trivial ?_
    refine s_step [] (by simp) rfl rfl rfl rfl (e_faP (pl := [(0, 1, false), (1, 1, false), (2, 1, false), (3, 1, false), (4, 1, false), (5, 1, false)]) rfl (by kernel_rfl) (by kernel_rfl) (by decide) rfl) trivial ?_
    refine s_step [3] (by simp) rfl rfl rfl rfl (e_loadH (v := .sc _) rfl ho20 (by kernel_rfl) (by kernel_rfl) (by kernel_rfl) (by exact Nat.zero_lt_one) (by decide) rfl) trivial ?_
    refine s_step [] (by simp) rfl rfl rfl rfl (e_faP (pl := [(0, 1, false), (1, 1, false), (2, 1, false), (3, 1, false), (4, 1, false), (5, 1, false)]) rfl (by kernel_rfl) (by kernel_rfl) (by decide) rfl) trivial ?_
    refine s_step [3] (by simp) rfl rfl rfl rfl (e_loadH (v := .sc _) rfl ho20 (by kernel_rfl) (by kernel_rfl) (by kernel_rfl) (by exact Nat.zero_lt_one) (by decide) rfl) trivial ?_
    refine s_step [] (by simp) rfl rfl rfl rfl (e_build (cs := Shelf.enc (⟨m.part, m.til, m.after⟩ : Shelf)) (zs := [.str ByteArray.empty, .int 0, .int 0]) (pl := [(0, 1, false), (1, 1, false), (2, 1, false)]) (by kernel_rfl) (by kernel_rfl) (by kernel_rfl) rfl rfl (by exact ⟨by decide, rfl, Nat.le_of_ble_eq_true rfl, rfl, ⟨by decide, rfl, Nat.le_of_ble_eq_true rfl, rfl, ⟨by decide, rfl, Nat.le_of_ble_eq_true rfl, rfl, trivial⟩⟩⟩) rfl) trivial ?_
    refine s_step [6] (by simp) rfl rfl rfl rfl (e_look (kt := 93) (et := 3) (f := kx) (g := PV.int) (a := (⟨m.part, m.til, m.after⟩ : Shelf)) (l := (aSet (⟨m.part, m.fro, m.before⟩ : Shelf) (((aGet (⟨m.part, m.fro, m.before⟩ : Shelf) s).getD 0) - m.count) s)) (z := 0) kx_eq kx_ok rfl rfl hm18 (by kernel_rfl) (by kernel_rfl) (by first | rfl | kernel_rfl)) trivial ?_
    refine s_step [] (by simp) rfl rfl rfl rfl (e_faP (pl := [(0, 1, false), (1, 1, false), (2, 1, false), (3, 1, false), (4, 1, false), (5, 1, false)]) rfl (by kernel_rfl) (by kernel_rfl) (by decide) rfl) trivial ?_
    refine s_step [3] (by simp) rfl rfl rfl rfl (e_loadH (v := .sc _) rfl ho20 (by kernel_rfl) (by kernel_rfl) (by kernel_rfl) (by exact Nat.zero_lt_one) (by decide) rfl) trivial ?_
    refine s_step [] (by simp) rfl rfl rfl rfl (e_add rfl rfl (by omega)) trivial ?_
    refine s_mentry (kt := 93) (et := 3) (m := 6) (f := kx) (g := PV.int) (a := (⟨m.part, m.til, m.after⟩ : Shelf)) (l := (aSet (⟨m.part, m.fro, m.before⟩ : Shelf) (((aGet (⟨m.part, m.fro, m.before⟩ : Shelf) s).getD 0) - m.count) s)) (z := 0) kx_eq kx_ok rfl rfl rfl rfl rfl hm18 (by kernel_rfl) (by kernel_rfl) (by first | rfl | kernel_rfl) (fun _ => rfl) fun h26 sp27 hst28 hfr29 => ?_
    have ho30 := (hfr29 (3, _) (key_ne rfl)).trans ho20
    have ho31 := (hfr29 (5, _) (key_ne rfl)).trans ho21
    refine s_step [] (by simp) rfl rfl rfl rfl (e_ext (v := .sc _) rfl (by simp) rfl) trivial ?_
    refine s_estore (f := kx) (g := PV.int) (a := (⟨m.part, m.til, m.after⟩ : Shelf)) (b := (((aGet (⟨m.part, m.til, m.after⟩ : Shelf) (aSet (⟨m.part, m.fro, m.before⟩ : Shelf) (((aGet (⟨m.part, m.fro, m.before⟩ : Shelf) s).getD 0) - m.count) s)).getD 0) + m.count)) (u := ((aGet (⟨m.part, m.til, m.after⟩ : Shelf) (aSet (⟨m.part, m.fro, m.before⟩ : Shelf) (((aGet (⟨m.part, m.fro, m.before⟩ : Shelf) s).getD 0) - m.count) s)).getD 0)) (l := (aSet (⟨m.part, m.fro, m.before⟩ : Shelf) (((aGet (⟨m.part, m.fro, m.before⟩ : Shelf) s).getD 0) - m.count) s)) rfl rfl rfl rfl hst28 rfl fun h32 hm33 hfr34 => ?_
    have ho35 := (hfr34 (3, _) (key_ne rfl)).trans ho30
    have ho36 := (hfr34 (5, _) (key_ne rfl)).trans ho31
    refine s_end (ds := []) (by kernel_rfl) (by kernel_rfl) (hK25 _ ?_); clear hK25 K25
    refine seq_norm (hK23 _ ?_); clear hK23 K23
    refine pwp_seq_plain rfl fun K37 hK37 => ?_
    refine p_step rfl (e_assign (v := .sc _) rfl) trivial ?_
    refine p_end (hK37 _ ?_); clear hK37 K37
    refine pwp_ret ?_
    refine end1 (v := .sc _) rfl ?_
    exact mr_of (mx_ft (by assumption) (by omega) (by assumption)) hm33
   have hb24R := hb24; try simp only [z1, z2, z3, z4, z5, z6, ne_eq, z7, z8, z9, z10, z11, z12] at hb24
   refine pwp_skip ?_
   refine seq_norm (hK23 _ ?_); clear hK23 K23
   refine pwp_seq_plain rfl fun K38 hK38 => ?_
   refine p_step rfl (e_assign (v := .sc _) rfl) trivial ?_
   refine p_end (hK38 _ ?_); clear hK38 K38
   refine pwp_ret ?_
   refine end1 (v := .sc _) rfl ?_
   exact mr_of (mx_f (by assumption) (by omega) (by assumption)) hm18
  have hb4R := hb4; try simp only [z1, z2, z3, z4, z5, z6, ne_eq, z7, z8, z9, z10, z11, z12] at hb4
  refine pwp_skip ?_
  refine seq_norm (hK3 _ ?_); clear hK3 K3
  refine pwp_seq_seq ?_
  refine pwp_seq_plain rfl fun K39 hK39 => ?_
  refine p_step rfl (e_faP (pl := [(0, 1, false), (1, 1, false), (2, 1, false), (3, 1, false), (4, 1, false), (5, 1, false)]) rfl (by kernel_rfl) (by kernel_rfl) (by decide) rfl) trivial ?_
  refine p_step rfl (e_loadH (v := .sc _) rfl (hset_self _ _ _) (by kernel_rfl) (by kernel_rfl) (by kernel_rfl) (by exact Nat.zero_lt_one) (by decide) rfl) trivial ?_
  refine p_step rfl (e_ne rfl rfl) trivial ?_
  refine p_end (hK39 _ ?_); clear hK39 K39
  refine pwp_seq_cond rfl fun K40 hK40 => ⟨fun hb41 => ?_, fun hb41 => ?_⟩
  ·have hb41R := hb41; try simp only [z1, z2, z3, z4, z5, z6, ne_eq, z7, z8, z9, z10, z11, z12] at hb41
   refine pwp_gops rfl fun K42 hK42 => ?_
   refine s_begin ?_
   refine s_step [] (by simp) rfl rfl rfl rfl (e_move (v := .map _) rfl) trivial ?_
   refine s_step [] (by simp) rfl rfl rfl rfl (e_faP (pl := [(0, 1, false), (1, 1, false), (2, 1, false), (3, 1, false), (4, 1, false), (5, 1, false)]) rfl (by kernel_rfl) (by kernel_rfl) (by decide) rfl) trivial ?_
   refine s_step [3] (by simp) rfl rfl rfl rfl (e_loadH (v := .sc _) rfl (hset_self _ _ _) (by kernel_rfl) (by kernel_rfl) (by kernel_rfl) (by exact Nat.zero_lt_one) (by decide) rfl) trivial ?_
   refine s_step [] (by simp) rfl rfl rfl rfl (e_faP (pl := [(0, 1, false), (1, 1, false), (2, 1, false), (3, 1, false), (4, 1, false), (5, 1, false)]) rfl (by kernel_rfl) (by kernel_rfl) (by decide) rfl) trivial ?_
   refine s_step [3] (by simp) rfl rfl rfl rfl (e_loadH (v := .sc _) rfl (hset_self _ _ _) (by kernel_rfl) (by kernel_rfl) (by kernel_rfl) (by exact Nat.zero_lt_one) (by decide) rfl) trivial ?_
   refine s_step [] (by simp) rfl rfl rfl rfl (e_faP (pl := [(0, 1, false), (1, 1, false), (2, 1, false), (3, 1, false), (4, 1, false), (5, 1, false)]) rfl (by kernel_rfl) (by kernel_rfl) (by decide) rfl) trivial ?_
   refine s_step [3] (by simp) rfl rfl rfl rfl (e_loadH (v := .sc _) rfl (hset_self _ _ _) (by kernel_rfl) (by kernel_rfl) (by kernel_rfl) (by exact Nat.zero_lt_one) (by decide) rfl) trivial ?_
   refine s_step [] (by simp) rfl rfl rfl rfl (e_build (cs := Shelf.enc (⟨m.part, m.til, m.after⟩ : Shelf)) (zs := [.str ByteArray.empty, .int 0, .int 0]) (pl := [(0, 1, false), (1, 1, false), (2, 1, false)]) (by kernel_rfl) (by kernel_rfl) (by kernel_rfl) rfl rfl (by exact ⟨by decide, rfl, Nat.le_of_ble_eq_true rfl, rfl, ⟨by decide, rfl, Nat.le_of_ble_eq_true rfl, rfl, ⟨by decide, rfl, Nat.le_of_ble_eq_true rfl, rfl, trivial⟩⟩⟩) rfl) trivial ?_
   refine s_step [6] (by simp) rfl rfl rfl rfl (e_look (kt := 93) (et := 3) (f := kx) (g := PV.int) (a := (⟨m.part, m.til, m.after⟩ : Shelf)) (l := s) (z := 0) kx_eq kx_ok rfl rfl (MapAt.keep hm0 ((hset_ne (key_ne rfl)).trans (rfl))) (by kernel_rfl) (by kernel_rfl) (by first | rfl | kernel_rfl)) trivial ?_
   refine s_step [] (by simp) rfl rfl rfl rfl (e_faP (pl := [(0, 1, false), (1, 1, false), (2, 1, false), (3, 1, false), (4, 1, false), (5, 1, false)]) rfl (by kernel_rfl) (by kernel_rfl) (by decide) rfl) trivial ?_
   refine s_step [3] (by simp) rfl rfl rfl rfl (e_loadH (v := .sc _) rfl (hset_self _ _ _) (by kernel_rfl) (by kernel_rfl) (by kernel_rfl) (by exact Nat.zero_lt_one) (by decide) rfl) trivial ?_
   refine s_step [] (by simp) rfl rfl rfl rfl (e_add rfl rfl (by omega)) trivial ?_
   refine s_mentry (kt := 93) (et := 3) (m := 6) (f := kx) (g := PV.int) (a := (⟨m.part, m.til, m.after⟩ : Shelf)) (l := s) (z := 0) kx_eq kx_ok rfl rfl rfl rfl rfl (MapAt.keep hm0 ((hset_ne (key_ne rfl)).trans (rfl))) (by kernel_rfl) (by kernel_rfl) (by first | rfl | kernel_rfl) (fun _ => rfl) fun h43 sp44 hst45 hfr46 => ?_
   have ho47 := (hfr46 (3, _) (key_ne rfl)).trans (hset_self _ _ _)
   refine s_step [] (by simp) rfl rfl rfl rfl (e_ext (v := .sc _) rfl (by simp) rfl) trivial ?_
   refine s_estore (f := kx) (g := PV.int) (a := (⟨m.part, m.til, m.after⟩ : Shelf)) (b := (((aGet (⟨m.part, m.til, m.after⟩ : Shelf) s).getD 0) + m.count)) (u := ((aGet (⟨m.part, m.til, m.after⟩ : Shelf) s).getD 0)) (l := s) rfl rfl rfl rfl hst45 rfl fun h48 hm49 hfr50 => ?_
   have ho51 := (hfr50 (3, _) (key_ne rfl)).trans ho47
   refine s_end (ds := []) (by kernel_rfl) (by kernel_rfl) (hK42 _ ?_); clear hK42 K42
   refine seq_norm (hK40 _ ?_); clear hK40 K40
   refine pwp_seq_plain rfl fun K52 hK52 => ?_
   refine p_step rfl (e_assign (v := .sc _) rfl) trivial ?_
   refine p_end (hK52 _ ?_); clear hK52 K52
   refine pwp_ret ?_
   refine end1 (v := .sc _) rfl ?_
   exact mr_of (mx_t (by assumption) (by assumption)) hm49
  have hb41R := hb41; try simp only [z1, z2, z3, z4, z5, z6, ne_eq, z7, z8, z9, z10, z11, z12] at hb41
  refine pwp_skip ?_
  refine seq_norm (hK40 _ ?_); clear hK40 K40
  refine pwp_seq_plain rfl fun K53 hK53 => ?_
  refine p_step rfl (e_assign (v := .sc _) rfl) trivial ?_
  refine p_end (hK53 _ ?_); clear hK53 K53
  refine pwp_ret ?_
  refine end1 (v := .sc _) rfl ?_
  exact mr_of (mx_0 (by assumption) (by assumption)) (MapAt.keep hm0 ((hset_ne (key_ne rfl)).trans (rfl)))

theorem mvE_cnt {m : Movement} (h : mvE m = 0) : rngQ m ∧ 1 ≤ m.count ∧ m.count ≤ 1000000 := by
  have hr := (mvE_ok h).2.1
  exact ⟨hr, by unfold rngQ at hr; omega⟩
theorem sum_bd {xs : List Stock} (h : xs.length ≤ 200 ∧ ∀ x ∈ xs, (0 ≤ x.place ∧ x.place ≤ 99) ∧ (0 ≤ x.state ∧ x.state ≤ 3) ∧ (0 ≤ x.count ∧ x.count ≤ 1000000)) (k : Kx) : 0 ≤ getS k (sumS [] xs) ∧ getS k (sumS [] xs) ≤ 1000000000 := by
  rw [getS_sum0]
  have h1 := cntS_0 (k := k) (l := xs) fun x hx => (h.2 x hx).2.2.1
  have h2 := cntS_le (k := k) (l := xs) fun x hx => (h.2 x hx).2.2
  omega

theorem fr14 : (inFrame Tryd.f14.ntmps (Tryd.f14.body.getD .skip) && Tryd.f14.results.toList.all (resScope Tryd.f14.ntmps)) = true := by kernel_rfl
theorem MoveS (xs : List Stock) (m : Movement) (hl : xs.length ≤ 220) (hs : ∀ x ∈ xs, x.part.size ≤ 30) (hsm : m.part.size ≤ 30) : PCalls Tryd.prog 14 [.lit true 4 (xs.map Stock.enc), .agg m.enc] (.tup [.lit false 4 ((moveR xs m).2.map Stock.enc), .int (moveR xs m).1]) := by
  refine PCalls.of_code Tryd.func14 rfl rfl (by kernel_rfl) mixed fr14 (by show _ ≤ 32; simp) (pure_2 (.lit _ _ _ fun row hr => pure_map Stock.pure row hr) (.sc _)) ?_
  refine pwp_seq_plain rfl fun K1 hK1 => ?_
  refine p_new rfl (e_box (n := 6) rfl rfl) ⟨rfl, by decide⟩ ?_
  refine p_step rfl (e_assign (v := .nil) rfl) trivial ?_
  refine p_step rfl (e_assign (v := .sc _) rfl) trivial ?_
  refine p_end (hK1 _ ?_); clear hK1 K1
  refine pwp_seq_seq ?_
  refine pwp_seq_plain rfl fun K2 hK2 => ?_
  refine p_step rfl (e_move (v := .lit _ _ _) rfl) trivial ?_
  refine p_call rfl (.cons inn_lit .nil) (CheckS _ (by omega) (by assumption)) ?_
  refine p_step rfl (e_assign (v := .sc _) rfl) trivial ?_
  refine p_end (hK2 _ ?_); clear hK2 K2
  refine pwp_seq_seq ?_
  refine pwp_seq_plain rfl fun K3 hK3 => ?_
  refine p_step rfl (e_move (v := .sc _) rfl) trivial ?_
  refine p_step rfl (e_ne rfl rfl) trivial ?_
  refine p_end (hK3 _ ?_); clear hK3 K3
  refine pwp_seq_cond rfl fun K4 hK4 => ⟨fun hb5 => ?_, fun hb5 => ?_⟩
  ·have hb5R := hb5; simp only [z1, z2, z3, z4, z5, z6, ne_eq, z7, z8, z9, z10, z11, z12] at hb5
   refine pwp_seq_plain rfl fun K6 hK6 => ?_
   refine p_step rfl (e_move (v := .sc _) rfl) trivial ?_
   refine p_step rfl (e_assign (v := .nil) rfl) trivial ?_
   refine p_step rfl (e_assign (v := .sc _) rfl) trivial ?_
   refine p_end (hK6 _ ?_); clear hK6 K6
   refine pwp_ret ?_
   refine ret_seq ?_
   refine end2 (v := .nil) (w := .sc _) rfl rfl ?_
   exact pr_out0 (mo_1 (by assumption))
  have hb5R := hb5; simp only [z1, z2, z3, z4, z5, z6, ne_eq, z7, z8, z9, z10, z11, z12] at hb5; have hok := stockE_ok hb5; have hbs := sum_bd hok
  refine pwp_skip ?_
  refine seq_norm (hK4 _ ?_); clear hK4 K4
  refine pwp_seq_seq ?_
  refine pwp_seq_plain rfl fun K7 hK7 => ?_
  refine p_step rfl (e_loadHA (n := 6) rfl (hset_self _ _ _) (by kernel_rfl) (by kernel_rfl) (by kernel_rfl) (by exact Nat.zero_lt_one) (by decide) rfl) trivial ?_
  refine p_call rfl (.cons (inn_agg (Movement.pure _)) .nil) (CheckMovement _ (by assumption)) ?_
  refine p_step rfl (e_assign (v := .sc _) rfl) trivial ?_
  refine p_end (hK7 _ ?_); clear hK7 K7
  refine pwp_seq_seq ?_
  refine pwp_seq_plain rfl fun K8 hK8 => ?_
  refine p_step rfl (e_move (v := .sc _) rfl) trivial ?_
  refine p_step rfl (e_ne rfl rfl) trivial ?_
  refine p_end (hK8 _ ?_); clear hK8 K8
  refine pwp_seq_cond rfl fun K9 hK9 => ⟨fun hb10 => ?_, fun hb10 => ?_⟩
  ·have hb10R := hb10; simp only [z1, z2, z3, z4, z5, z6, ne_eq, z7, z8, z9, z10, z11, z12] at hb10
   refine pwp_seq_plain rfl fun K11 hK11 => ?_
   refine p_step rfl (e_move (v := .sc _) rfl) trivial ?_
   refine p_step rfl (e_assign (v := .nil) rfl) trivial ?_
   refine p_step rfl (e_assign (v := .sc _) rfl) trivial ?_
   refine p_end (hK11 _ ?_); clear hK11 K11
   refine pwp_ret ?_
   refine ret_seq ?_
   refine end2 (v := .nil) (w := .sc _) rfl rfl ?_
   exact pr_out0 (mo_2 (by assumption) (by assumption))
  have hb10R := hb10; simp only [z1, z2, z3, z4, z5, z6, ne_eq, z7, z8, z9, z10, z11, z12] at hb10; have hmv := mvE_cnt hb10
  refine pwp_skip ?_
  refine seq_norm (hK9 _ ?_); clear hK9 K9
  refine pwp_seq_plain rfl fun K12 hK12 => ?_
  refine p_step rfl (e_move (v := .lit _ _ _) rfl) trivial ?_
  refine p_hcall rfl (storeOf xs _ _ hok.1 (fun x hx => (hok.2 x hx).2.2)) fun v13 h14 c15 hR16 => ?_
  obtain ⟨rfl, hm17, hf18⟩ := hR16
  have hb19 := (hf18 3 0 (by intro e; cases e) (by intro e; cases e)).trans (hset_self _ _ _)
  refine p_step rfl (e_assign (v := .map _) rfl) trivial ?_
  refine p_end (hK12 _ ?_); clear hK12 K12
  refine pwp_seq_seq ?_
  refine pwp_seq_plain rfl fun K20 hK20 => ?_
  refine p_step rfl (e_move (v := .map _) rfl) trivial ?_
  refine p_step rfl (e_loadHA (n := 6) rfl hb19 (by kernel_rfl) (by kernel_rfl) (by kernel_rfl) (by exact Nat.zero_lt_one) (by decide) rfl) trivial ?_
  refine p_hcall rfl (storeMove (sumS [] xs) m _ _ _ hm17 hbs hmv.2) fun v21 h22 c23 hR24 => ?_
  obtain ⟨rfl, hm25⟩ := hR24
  refine p_step rfl (e_assign (v := .sc _) rfl) trivial ?_
  refine p_end (hK20 _ ?_); clear hK20 K20
  refine pwp_seq_seq ?_
  refine pwp_seq_plain rfl fun K26 hK26 => ?_
  refine p_step rfl (e_move (v := .sc _) rfl) trivial ?_
  refine p_step rfl (e_ne rfl rfl) trivial ?_
  refine p_end (hK26 _ ?_); clear hK26 K26
  refine pwp_seq_cond rfl fun K27 hK27 => ⟨fun hb28 => ?_, fun hb28 => ?_⟩
  ·have hb28R := hb28; simp only [z1, z2, z3, z4, z5, z6, ne_eq, z7, z8, z9, z10, z11, z12] at hb28
   refine pwp_seq_plain rfl fun K29 hK29 => ?_
   refine p_step rfl (e_move (v := .sc _) rfl) trivial ?_
   refine p_step rfl (e_assign (v := .nil) rfl) trivial ?_
   refine p_step rfl (e_assign (v := .sc _) rfl) trivial ?_
   refine p_end (hK29 _ ?_); clear hK29 K29
   refine pwp_ret ?_
   refine ret_seq ?_
   refine end2 (v := .nil) (w := .sc _) rfl rfl ?_
   exact pr_out0 (mo_3 (by assumption) (by assumption) (by assumption))
  have hb28R := hb28; simp only [z1, z2, z3, z4, z5, z6, ne_eq, z7, z8, z9, z10, z11, z12] at hb28
  refine pwp_skip ?_
  refine seq_norm (hK27 _ ?_); clear hK27 K27
  refine pwp_seq_plain rfl fun K30 hK30 => ?_
  refine p_step rfl (e_move (v := .map _) rfl) trivial ?_
  refine p_hcall rfl (listO (mvX (sumS [] xs) m).2 _ _ _ hm25 (mvX_size hs hsm) (mvX_len hl)) fun v31 h32 c33 hR34 => ?_
  obtain ⟨u35, rfl, hs36⟩ := hR34
  refine p_step rfl (e_ext (v := _) rfl (by simp) rfl) trivial ?_
  refine p_step rfl (e_ext (v := .sc _) rfl (by simp) rfl) trivial ?_
  refine p_step rfl (e_assign (v := _) rfl) trivial ?_
  refine p_step rfl (e_assign (v := .sc _) rfl) trivial ?_
  refine p_end (hK30 _ ?_); clear hK30 K30
  refine pwp_ret ?_
  refine end2 (v := _) (w := .sc _) rfl rfl ?_
  exact pr_out (mo_4 (by assumption) (by assumption) (by assumption)) hs36

theorem rm_out {h : Heap} {xs ys : List Stock} {m : Movement} (hr : refMoveR xs m = ((settS (putF [] ys)).1, (settS (putF [] ys)).2)) : Out h (.tup [.lit false 4 ((settS (putF [] ys)).2.map Stock.enc), .int (settS (putF [] ys)).1]) (.tup [.lit false 4 ((refMoveR xs m).2.map Stock.enc), .int (refMoveR xs m).1]) := by
  rw [hr]
  exact out_2 (.clean (.lit _ _ (fun row hr p hp => by obtain ⟨a, _, rfl⟩ := List.mem_map.1 hr; exact (stock_clean a p hp).1))) (out_i rfl)

theorem fr16 : (inFrame Tryd.f16.ntmps (Tryd.f16.body.getD .skip) && Tryd.f16.results.toList.all (resScope Tryd.f16.ntmps)) = true := by kernel_rfl
theorem refMove (xs : List Stock) (m : Movement) (hl : xs.length ≤ 220) (hcb : ∀ y ∈ xs, -1000000 ≤ y.count ∧ y.count ≤ 1000000) (hsm : m.part.size ≤ 30) : PCalls Tryd.prog 16 [.lit true 4 (xs.map Stock.enc), .agg m.enc] (.tup [.lit false 4 ((refMoveR xs m).2.map Stock.enc), .int (refMoveR xs m).1]) := by
  refine PCalls.of_code Tryd.func16 rfl rfl (by kernel_rfl) mixed fr16 (by show _ ≤ 71; simp) (pure_2 (.lit _ _ _ fun row hr => pure_map Stock.pure row hr) (.sc _)) ?_
  refine pwp_seq_plain rfl fun K1 hK1 => ?_
  refine p_new rfl (e_box (n := 6) rfl rfl) ⟨rfl, by decide⟩ ?_
  refine p_step rfl (e_assign (v := .nil) rfl) trivial ?_
  refine p_step rfl (e_assign (v := .sc _) rfl) trivial ?_
  refine p_end (hK1 _ ?_); clear hK1 K1
  refine pwp_seq_seq ?_
  refine pwp_seq_plain rfl fun K2 hK2 => ?_
  refine p_step rfl (e_loadHA (cs := Movement.enc (m)) (n := 6) rfl (hset_self _ _ _) (by kernel_rfl) (by kernel_rfl) (by kernel_rfl) (by exact Nat.zero_lt_one) (by decide) rfl) trivial ?_
  refine p_call rfl (.cons (inn_agg (Movement.pure _)) .nil) (refCheckMovement _ (by assumption)) ?_
  refine p_step rfl (e_assign (v := .sc _) rfl) trivial ?_
  refine p_end (hK2 _ ?_); clear hK2 K2
  refine pwp_seq_seq ?_
  refine pwp_seq_plain rfl fun K3 hK3 => ?_
  refine p_step rfl (e_move (v := .sc _) rfl) trivial ?_
  refine p_step rfl (e_ne rfl rfl) trivial ?_
  refine p_end (hK3 _ ?_); clear hK3 K3
  refine pwp_seq_cond rfl fun K4 hK4 => ⟨fun hb5 => ?_, fun hb5 => ?_⟩
  ·have hb5R := hb5; simp only [z1, z2, z3, z4, z5, z6, ne_eq, z7, z8, z9, z10, z11, z12] at hb5
   refine pwp_seq_plain rfl fun K6 hK6 => ?_
   refine p_step rfl (e_move (v := .sc _) rfl) trivial ?_
   refine p_step rfl (e_assign (v := .nil) rfl) trivial ?_
   refine p_step rfl (e_assign (v := .sc _) rfl) trivial ?_
   refine p_end (hK6 _ ?_); clear hK6 K6
   refine pwp_ret ?_
   refine ret_seq ?_
   refine end2 (v := .nil) (w := .sc _) rfl rfl ?_
   exact pr_out0 (rm_1 (by assumption))
  have hb5R := hb5; simp only [z1, z2, z3, z4, z5, z6, ne_eq, z7, z8, z9, z10, z11, z12] at hb5; have hmv := mvE_cnt hb5; have hrg := hmv.1; unfold rngQ at hrg
  refine pwp_skip ?_
  refine seq_norm (hK4 _ ?_); clear hK4 K4
  refine pwp_seq_plain rfl fun K7 hK7 => ?_
  refine p_step rfl (e_assign (v := .nil) rfl) trivial ?_
  refine p_end (hK7 _ ?_); clear hK7 K7
  refine pwp_seq_seq ?_
  refine pwp_seq_plain rfl fun K8 hK8 => ?_
  refine p_step rfl (e_assign (v := .sc _) rfl) trivial ?_
  refine p_end (hK8 _ ?_); clear hK8 K8
  refine pwp_seq_block fun K9 hK9 => ?_
  refine pwp_loopR (α := Nat × PV) [0, 3] (fun (a10 : Nat × PV) => [(7, (a10.2)), (8, .int (a10.1))]) (fun (a10 : Nat × PV) (h : Heap) (_ : Nat → Nat) => ((a10.1) ≤ xs.length) ∧ (LitV (a10.2) 4 ((putF [] (xs.take (a10.1))).map Stock.enc)) ∧ (h (3, 0) = some (.rows 6 [Movement.enc m]))) (fun (a10 : Nat × PV) => xs.length - (a10.1)) (0, _) (by exact ⟨rfl, rfl, trivial⟩) (by exact ⟨by exact Nat.zero_le _, by exact LitV.nil, (hset_self _ _ _)⟩) fun a10 r11 h12 c13 hj14 => ?_
  obtain ⟨k, v⟩ := a10
  obtain ⟨hk, hlv, hihj14_0⟩ := hj14
  try dsimp only at hk
  try dsimp only at hlv
  try dsimp only at hihj14_0
  show pwp _ _ (loopQ _ _ _) ⟨sets (mix _ _ _) [(7, v), (8, .int k)], _, _⟩
  refine pwp_seq_seq ?_
  refine pwp_seq_plain rfl fun K15 hK15 => ?_
  refine p_step rfl (e_move (v := .sc _) rfl) trivial ?_
  refine p_step rfl (e_move (v := .lit _ _ _) rfl) trivial ?_
  refine p_step rfl (e_len rfl (by kernel_rfl)) trivial ?_
  refine p_step rfl (e_lt rfl rfl) trivial ?_
  refine p_end (hK15 _ ?_); clear hK15 K15
  refine pwp_seq_cond rfl fun K16 hK16 => ⟨fun hb17 => ?_, fun hb17 => ?_⟩
  ·have hb17R := hb17; simp only [z1, z2, z3, z4, z5, z6, ne_eq, z7, z8, z9, z10, z11, z12] at hb17
   obtain ⟨x, hx, hd, ht⟩ := get_lt (xs := xs) (i := k) (by omega)
   have hln := putF_len (xs.take k) []; simp only [List.length_nil, List.length_take] at hln
   refine pwp_skip ?_
   refine seq_norm (hK16 _ ?_); clear hK16 K16
   refine pwp_seq_block fun K18 hK18 => ?_
   refine pwp_plain rfl fun K19 hK19 => ?_
   refine p_step rfl (e_move (v := _) rfl) trivial ?_
   refine p_step rfl (e_move (v := .lit _ _ _) rfl) trivial ?_
   refine p_step rfl (e_move (v := .sc _) rfl) trivial ?_
   refine p_step rfl (e_ixa rfl rfl (by kernel_rfl) (by kernel_rfl) (by simp only [List.length_map]; omega)) trivial ?_
   refine p_step rfl (e_loadA (n := 4) rfl (by kernel_rfl) (by kernel_rfl) (by kernel_rfl) (by simp only [List.length_map]; omega) (by decide) (by first | exact agg_map hx rfl)) trivial ?_
   refine p_call rfl (.cons (LitV.inn hlv) (.cons (inn_agg (Stock.pure _)) .nil)) (PutF (xs.take k) x (by simp only [List.length_take]; omega) (fun y hy => hcb y (List.mem_of_mem_take hy)) (hcb x (List.mem_of_getElem? hx))) ?_
   refine p_step rfl (e_assign (v := .lit _ _ _) rfl) trivial ?_
   refine p_end (hK19 _ ?_); clear hK19 K19
   refine block_norm ?_
   refine seq_norm (hK18 _ ?_); clear hK18 K18
   refine pwp_plain rfl fun K20 hK20 => ?_
   refine p_step rfl (e_move (v := .sc _) rfl) trivial ?_
   refine p_step rfl (e_add rfl rfl (by omega)) trivial ?_
   refine p_step rfl (e_assign (v := .sc _) rfl) trivial ?_
   refine p_end (hK20 _ ?_); clear hK20 K20
   exact loop_again ((k + 1, _)) (by show _ < _; simp only; omega) ⟨rfl, rfl, trivial⟩ ⟨rfl, rfl, trivial⟩ (by exact ⟨by show _ + 1 ≤ _; omega, by (rw [ht]; exact LitV.lit), hihj14_0⟩)
  have hb17R := hb17; simp only [z1, z2, z3, z4, z5, z6, ne_eq, z7, z8, z9, z10, z11, z12] at hb17
  obtain rfl : k = xs.length := by omega
  rw [List.take_length] at hlv
  refine pwp_exit ?_
  refine exit_seq ?_
  clear hK16 K16
  refine exit_loop ?_
  refine exit_here ?_
  refine seq_norm (hK9 _ ?_); clear hK9 K9
  refine pwp_seq_seq ?_
  refine pwp_seq_plain rfl fun K21 hK21 => ?_
  refine p_step rfl (e_faP (pl := [(0, 1, false), (1, 1, false), (2, 1, false), (3, 1, false), (4, 1, false), (5, 1, false)]) rfl (by kernel_rfl) (by kernel_rfl) (by decide) rfl) trivial ?_
  refine p_step rfl (e_loadH (v := .sc _) rfl hihj14_0 (by kernel_rfl) (by kernel_rfl) (by kernel_rfl) (by exact Nat.zero_lt_one) (by decide) rfl) trivial ?_
  refine p_step rfl (e_ge rfl rfl) trivial ?_
  refine p_end (hK21 _ ?_); clear hK21 K21
  refine pwp_seq_cond rfl fun K22 hK22 => ⟨fun hb23 => ?_, fun hb23 => ?_⟩
  ·have hb23R := hb23; simp only [z1, z2, z3, z4, z5, z6, ne_eq, z7, z8, z9, z10, z11, z12] at hb23
   refine pwp_seq_seq ?_
   refine pwp_seq_gops rfl fun K24 hK24 => ?_
   refine g_begin ?_
   refine g_step rfl rfl rfl rfl (e_move (v := .lit _ _ _) rfl) trivial ?_
   refine g_step rfl rfl rfl rfl (e_faP (pl := [(0, 1, false), (1, 1, false), (2, 1, false), (3, 1, false), (4, 1, false), (5, 1, false)]) rfl (by kernel_rfl) (by kernel_rfl) (by decide) rfl) trivial ?_
   refine g_step rfl rfl rfl rfl (e_loadH (v := .sc _) rfl hihj14_0 (by kernel_rfl) (by kernel_rfl) (by kernel_rfl) (by exact Nat.zero_lt_one) (by decide) rfl) trivial ?_
   refine g_step rfl rfl rfl rfl (e_faP (pl := [(0, 1, false), (1, 1, false), (2, 1, false), (3, 1, false), (4, 1, false), (5, 1, false)]) rfl (by kernel_rfl) (by kernel_rfl) (by decide) rfl) trivial ?_
   refine g_step rfl rfl rfl rfl (e_loadH (v := .sc _) rfl hihj14_0 (by kernel_rfl) (by kernel_rfl) (by kernel_rfl) (by exact Nat.zero_lt_one) (by decide) rfl) trivial ?_
   refine g_step rfl rfl rfl rfl (e_faP (pl := [(0, 1, false), (1, 1, false), (2, 1, false), (3, 1, false), (4, 1, false), (5, 1, false)]) rfl (by kernel_rfl) (by kernel_rfl) (by decide) rfl) trivial ?_
   refine g_step rfl rfl rfl rfl (e_loadH (v := .sc _) rfl hihj14_0 (by kernel_rfl) (by kernel_rfl) (by kernel_rfl) (by exact Nat.zero_lt_one) (by decide) rfl) trivial ?_
   refine g_step rfl rfl rfl rfl (e_buildA (cs := At.enc (⟨m.fro, m.before⟩ : At)) (zs := [.int 0, .int 0]) (pl := [(0, 1, false), (1, 1, false)]) (by kernel_rfl) (by kernel_rfl) (by kernel_rfl) rfl rfl (by exact ⟨by decide, rfl, Nat.le_of_ble_eq_true rfl, rfl, ⟨by decide, rfl, Nat.le_of_ble_eq_true rfl, rfl, trivial⟩⟩) rfl) trivial ?_
   refine g_call rfl rfl rfl rfl (.cons inn_lit (.cons inn_sc (.cons (inn_agg (At.pure _)) .nil))) (refCount _ _ _ (by omega) (fun x hx => by have := hcb x hx; omega)) ?_
   refine g_step rfl rfl rfl rfl (e_faP (pl := [(0, 1, false), (1, 1, false), (2, 1, false), (3, 1, false), (4, 1, false), (5, 1, false)]) rfl (by kernel_rfl) (by kernel_rfl) (by decide) rfl) trivial ?_
   refine g_step rfl rfl rfl rfl (e_loadH (v := .sc _) rfl hihj14_0 (by kernel_rfl) (by kernel_rfl) (by kernel_rfl) (by exact Nat.zero_lt_one) (by decide) rfl) trivial ?_
   refine g_step rfl rfl rfl rfl (e_lt rfl rfl) trivial ?_
   refine g_end (ds := []) (by kernel_rfl) rfl (hK24 _ ?_); clear hK24 K24
   refine pwp_seq_cond rfl fun K25 hK25 => ⟨fun hb26 => ?_, fun hb26 => ?_⟩
   ·have hb26R := hb26; simp only [z1, z2, z3, z4, z5, z6, ne_eq, z7, z8, z9, z10, z11, z12] at hb26
    refine pwp_seq_plain rfl fun K27 hK27 => ?_
    refine p_step rfl (e_assign (v := .nil) rfl) trivial ?_
    refine p_step rfl (e_assign (v := .sc _) rfl) trivial ?_
    refine p_end (hK27 _ ?_); clear hK27 K27
    refine pwp_ret ?_
    refine ret_seq ?_
    refine ret_seq ?_
    refine end2 (v := .nil) (w := .sc _) rfl rfl ?_
    exact pr_out0 (rm_2 (by assumption) (by omega) (by assumption))
   have hb26R := hb26; simp only [z1, z2, z3, z4, z5, z6, ne_eq, z7, z8, z9, z10, z11, z12] at hb26
   refine pwp_skip ?_
   refine seq_norm (hK25 _ ?_); clear hK25 K25
   refine pwp_plain rfl fun K28 hK28 => ?_
   refine p_step rfl (e_move (v := _) rfl) trivial ?_
   refine p_step rfl (e_faP (pl := [(0, 1, false), (1, 1, false), (2, 1, false), (3, 1, false), (4, 1, false), (5, 1, false)]) rfl (by kernel_rfl) (by kernel_rfl) (by decide) rfl) trivial ?_
   refine p_step rfl (e_loadH (v := .sc _) rfl hihj14_0 (by kernel_rfl) (by kernel_rfl) (by kernel_rfl) (by exact Nat.zero_lt_one) (by decide) rfl) trivial ?_
   refine p_step rfl (e_faP (pl := [(0, 1, false), (1, 1, false), (2, 1, false), (3, 1, false), (4, 1, false), (5, 1, false)]) rfl (by kernel_rfl) (by kernel_rfl) (by decide) rfl) trivial ?_
   refine p_step rfl (e_loadH (v := .sc _) rfl hihj14_0 (by kernel_rfl) (by kernel_rfl) (by kernel_rfl) (by exact Nat.zero_lt_one) (by decide) rfl) trivial ?_
   refine p_step rfl (e_faP (pl := [(0, 1, false), (1, 1, false), (2, 1, false), (3, 1, false), (4, 1, false), (5, 1, false)]) rfl (by kernel_rfl) (by kernel_rfl) (by decide) rfl) trivial ?_
   refine p_step rfl (e_loadH (v := .sc _) rfl hihj14_0 (by kernel_rfl) (by kernel_rfl) (by kernel_rfl) (by exact Nat.zero_lt_one) (by decide) rfl) trivial ?_
   refine p_step rfl (e_faP (pl := [(0, 1, false), (1, 1, false), (2, 1, false), (3, 1, false), (4, 1, false), (5, 1, false)]) rfl (by kernel_rfl) (by kernel_rfl) (by decide) rfl) trivial ?_
   refine p_step rfl (e_loadH (v := .sc _) rfl hihj14_0 (by kernel_rfl) (by kernel_rfl) (by kernel_rfl) (by exact Nat.zero_lt_one) (by decide) rfl) trivial ?_
   refine p_step rfl (e_neg rfl (by omega)) trivial ?_
   refine p_step rfl (e_build (cs := Stock.enc (⟨m.part, m.fro, m.before, (0 - m.count)⟩ : Stock)) (zs := [.str ByteArray.empty, .int 0, .int 0, .int 0]) (pl := [(0, 1, false), (1, 1, false), (2, 1, false), (3, 1, false)]) (by kernel_rfl) (by kernel_rfl) (by kernel_rfl) rfl rfl (by exact ⟨by decide, rfl, Nat.le_of_ble_eq_true rfl, rfl, ⟨by decide, rfl, Nat.le_of_ble_eq_true rfl, rfl, ⟨by decide, rfl, Nat.le_of_ble_eq_true rfl, rfl, ⟨by decide, rfl, Nat.le_of_ble_eq_true rfl, rfl, trivial⟩⟩⟩⟩) rfl) trivial ?_
   refine p_call rfl (.cons (LitV.inn hlv) (.cons (inn_agg (Stock.pure _)) .nil)) (PutF xs (⟨m.part, m.fro, m.before, (0 - m.count)⟩ : Stock) (by first | omega | (simp only [List.length_append, List.length_cons, List.length_nil]; omega)) (by first | exact hcb | exact bd_snoc hcb (by first | exact ⟨by show -1000000 ≤ (0 - m.count); omega, by show (0 - m.count) ≤ 1000000; omega⟩ | exact ⟨by show -1000000 ≤ m.count; omega, by show m.count ≤ 1000000; omega⟩)) (by first | exact ⟨by show -1000000 ≤ (0 - m.count); omega, by show (0 - m.count) ≤ 1000000; omega⟩ | exact ⟨by show -1000000 ≤ m.count; omega, by show m.count ≤ 1000000; omega⟩)) ?_
   refine p_step rfl (e_assign (v := .lit _ _ _) rfl) trivial ?_
   refine p_end (hK28 _ ?_); clear hK28 K28
   refine seq_norm (hK22 _ ?_); clear hK22 K22
   refine pwp_seq_seq ?_
   refine pwp_seq_plain rfl fun K29 hK29 => ?_
   refine p_step rfl (e_faP (pl := [(0, 1, false), (1, 1, false), (2, 1, false), (3, 1, false), (4, 1, false), (5, 1, false)]) rfl (by kernel_rfl) (by kernel_rfl) (by decide) rfl) trivial ?_
   refine p_step rfl (e_loadH (v := .sc _) rfl hihj14_0 (by kernel_rfl) (by kernel_rfl) (by kernel_rfl) (by exact Nat.zero_lt_one) (by decide) rfl) trivial ?_
   refine p_step rfl (e_ge rfl rfl) trivial ?_
   refine p_end (hK29 _ ?_); clear hK29 K29
   refine pwp_seq_cond rfl fun K30 hK30 => ⟨fun hb31 => ?_, fun hb31 => ?_⟩
   ·have hb31R := hb31; simp only [z1, z2, z3, z4, z5, z6, ne_eq, z7, z8, z9, z10, z11, z12] at hb31
    refine pwp_plain rfl fun K32 hK32 => ?_
    refine p_step rfl (e_move (v := .lit _ _ _) rfl) trivial ?_
    refine p_step rfl (e_faP (pl := [(0, 1, false), (1, 1, false), (2, 1, false), (3, 1, false), (4, 1, false), (5, 1, false)]) rfl (by kernel_rfl) (by kernel_rfl) (by decide) rfl) trivial ?_
    refine p_step rfl (e_loadH (v := .sc _) rfl hihj14_0 (by kernel_rfl) (by kernel_rfl) (by kernel_rfl) (by exact Nat.zero_lt_one) (by decide) rfl) trivial ?_
    refine p_step rfl (e_faP (pl := [(0, 1, false), (1, 1, false), (2, 1, false), (3, 1, false), (4, 1, false), (5, 1, false)]) rfl (by kernel_rfl) (by kernel_rfl) (by decide) rfl) trivial ?_
    refine p_step rfl (e_loadH (v := .sc _) rfl hihj14_0 (by kernel_rfl) (by kernel_rfl) (by kernel_rfl) (by exact Nat.zero_lt_one) (by decide) rfl) trivial ?_
    refine p_step rfl (e_faP (pl := [(0, 1, false), (1, 1, false), (2, 1, false), (3, 1, false), (4, 1, false), (5, 1, false)]) rfl (by kernel_rfl) (by kernel_rfl) (by decide) rfl) trivial ?_
    refine p_step rfl (e_loadH (v := .sc _) rfl hihj14_0 (by kernel_rfl) (by kernel_rfl) (by kernel_rfl) (by exact Nat.zero_lt_one) (by decide) rfl) trivial ?_
    refine p_step rfl (e_faP (pl := [(0, 1, false), (1, 1, false), (2, 1, false), (3, 1, false), (4, 1, false), (5, 1, false)]) rfl (by kernel_rfl) (by kernel_rfl) (by decide) rfl) trivial ?_
    refine p_step rfl (e_loadH (v := .sc _) rfl hihj14_0 (by kernel_rfl) (by kernel_rfl) (by kernel_rfl) (by exact Nat.zero_lt_one) (by decide) rfl) trivial ?_
    refine p_step rfl (e_build (cs := Stock.enc (⟨m.part, m.til, m.after, m.count⟩ : Stock)) (zs := [.str ByteArray.empty, .int 0, .int 0, .int 0]) (pl := [(0, 1, false), (1, 1, false), (2, 1, false), (3, 1, false)]) (by kernel_rfl) (by kernel_rfl) (by kernel_rfl) rfl rfl (by exact ⟨by decide, rfl, Nat.le_of_ble_eq_true rfl, rfl, ⟨by decide, rfl, Nat.le_of_ble_eq_true rfl, rfl, ⟨by decide, rfl, Nat.le_of_ble_eq_true rfl, rfl, ⟨by decide, rfl, Nat.le_of_ble_eq_true rfl, rfl, trivial⟩⟩⟩⟩) rfl) trivial ?_
    refine p_call rfl (.cons inn_lit (.cons (inn_agg (Stock.pure _)) .nil)) (PutF (xs ++ [(⟨m.part, m.fro, m.before, (0 - m.count)⟩ : Stock)]) (⟨m.part, m.til, m.after, m.count⟩ : Stock) (by first | omega | (simp only [List.length_append, List.length_cons, List.length_nil]; omega)) (by first | exact hcb | exact bd_snoc hcb (by first | exact ⟨by show -1000000 ≤ (0 - m.count); omega, by show (0 - m.count) ≤ 1000000; omega⟩ | exact ⟨by show -1000000 ≤ m.count; omega, by show m.count ≤ 1000000; omega⟩)) (by first | exact ⟨by show -1000000 ≤ (0 - m.count); omega, by show (0 - m.count) ≤ 1000000; omega⟩ | exact ⟨by show -1000000 ≤ m.count; omega, by show m.count ≤ 1000000; omega⟩)) ?_
    refine p_step rfl (e_assign (v := .lit _ _ _) rfl) trivial ?_
    refine p_end (hK32 _ ?_); clear hK32 K32
    refine seq_norm (hK30 _ ?_); clear hK30 K30
    refine pwp_seq_plain rfl fun K33 hK33 => ?_
    refine p_step rfl (e_move (v := .lit _ _ _) rfl) trivial ?_
    refine p_call rfl (.cons inn_lit .nil) (settled (putF [] ((xs ++ [(⟨m.part, m.fro, m.before, (0 - m.count)⟩ : Stock)]) ++ [(⟨m.part, m.til, m.after, m.count⟩ : Stock)])) (by have := putF_len (((xs ++ [(⟨m.part, m.fro, m.before, (0 - m.count)⟩ : Stock)]) ++ [(⟨m.part, m.til, m.after, m.count⟩ : Stock)])) []; simp only [List.length_nil, List.length_append, List.length_cons] at this; omega)) ?_
    refine p_step rfl (e_ext (v := .lit _ _ _) rfl (by simp) rfl) trivial ?_
    refine p_step rfl (e_ext (v := .sc _) rfl (by simp) rfl) trivial ?_
    refine p_step rfl (e_assign (v := .lit _ _ _) rfl) trivial ?_
    refine p_step rfl (e_assign (v := .sc _) rfl) trivial ?_
    refine p_end (hK33 _ ?_); clear hK33 K33
    refine pwp_ret ?_
    refine end2 (v := .lit _ _ _) (w := .sc _) rfl rfl ?_
    exact rm_out (rm_3 (by assumption) (fun h9 => by have := h9.1; have := h9.2; omega) (by rw [ex_ft (by assumption) (by assumption), List.append_assoc]))
   have hb31R := hb31; simp only [z1, z2, z3, z4, z5, z6, ne_eq, z7, z8, z9, z10, z11, z12] at hb31
   refine pwp_skip ?_
   refine seq_norm (hK30 _ ?_); clear hK30 K30
   refine pwp_seq_plain rfl fun K34 hK34 => ?_
   refine p_step rfl (e_move (v := .lit _ _ _) rfl) trivial ?_
   refine p_call rfl (.cons inn_lit .nil) (settled (putF [] (xs ++ [(⟨m.part, m.fro, m.before, (0 - m.count)⟩ : Stock)])) (by have := putF_len ((xs ++ [(⟨m.part, m.fro, m.before, (0 - m.count)⟩ : Stock)])) []; simp only [List.length_nil, List.length_append, List.length_cons] at this; omega)) ?_
   refine p_step rfl (e_ext (v := .lit _ _ _) rfl (by simp) rfl) trivial ?_
   refine p_step rfl (e_ext (v := .sc _) rfl (by simp) rfl) trivial ?_
   refine p_step rfl (e_assign (v := .lit _ _ _) rfl) trivial ?_
   refine p_step rfl (e_assign (v := .sc _) rfl) trivial ?_
   refine p_end (hK34 _ ?_); clear hK34 K34
   refine pwp_ret ?_
   refine end2 (v := .lit _ _ _) (w := .sc _) rfl rfl ?_
   exact rm_out (rm_3 (by assumption) (fun h9 => by have := h9.1; have := h9.2; omega) (by rw [ex_f (by omega) (by omega)]))
  have hb23R := hb23; simp only [z1, z2, z3, z4, z5, z6, ne_eq, z7, z8, z9, z10, z11, z12] at hb23
  refine pwp_skip ?_
  refine seq_norm (hK22 _ ?_); clear hK22 K22
  refine pwp_seq_seq ?_
  refine pwp_seq_plain rfl fun K35 hK35 => ?_
  refine p_step rfl (e_faP (pl := [(0, 1, false), (1, 1, false), (2, 1, false), (3, 1, false), (4, 1, false), (5, 1, false)]) rfl (by kernel_rfl) (by kernel_rfl) (by decide) rfl) trivial ?_
  refine p_step rfl (e_loadH (v := .sc _) rfl hihj14_0 (by kernel_rfl) (by kernel_rfl) (by kernel_rfl) (by exact Nat.zero_lt_one) (by decide) rfl) trivial ?_
  refine p_step rfl (e_ge rfl rfl) trivial ?_
  refine p_end (hK35 _ ?_); clear hK35 K35
  refine pwp_seq_cond rfl fun K36 hK36 => ⟨fun hb37 => ?_, fun hb37 => ?_⟩
  ·have hb37R := hb37; simp only [z1, z2, z3, z4, z5, z6, ne_eq, z7, z8, z9, z10, z11, z12] at hb37
   refine pwp_plain rfl fun K38 hK38 => ?_
   refine p_step rfl (e_move (v := _) rfl) trivial ?_
   refine p_step rfl (e_faP (pl := [(0, 1, false), (1, 1, false), (2, 1, false), (3, 1, false), (4, 1, false), (5, 1, false)]) rfl (by kernel_rfl) (by kernel_rfl) (by decide) rfl) trivial ?_
   refine p_step rfl (e_loadH (v := .sc _) rfl hihj14_0 (by kernel_rfl) (by kernel_rfl) (by kernel_rfl) (by exact Nat.zero_lt_one) (by decide) rfl) trivial ?_
   refine p_step rfl (e_faP (pl := [(0, 1, false), (1, 1, false), (2, 1, false), (3, 1, false), (4, 1, false), (5, 1, false)]) rfl (by kernel_rfl) (by kernel_rfl) (by decide) rfl) trivial ?_
   refine p_step rfl (e_loadH (v := .sc _) rfl hihj14_0 (by kernel_rfl) (by kernel_rfl) (by kernel_rfl) (by exact Nat.zero_lt_one) (by decide) rfl) trivial ?_
   refine p_step rfl (e_faP (pl := [(0, 1, false), (1, 1, false), (2, 1, false), (3, 1, false), (4, 1, false), (5, 1, false)]) rfl (by kernel_rfl) (by kernel_rfl) (by decide) rfl) trivial ?_
   refine p_step rfl (e_loadH (v := .sc _) rfl hihj14_0 (by kernel_rfl) (by kernel_rfl) (by kernel_rfl) (by exact Nat.zero_lt_one) (by decide) rfl) trivial ?_
   refine p_step rfl (e_faP (pl := [(0, 1, false), (1, 1, false), (2, 1, false), (3, 1, false), (4, 1, false), (5, 1, false)]) rfl (by kernel_rfl) (by kernel_rfl) (by decide) rfl) trivial ?_
   refine p_step rfl (e_loadH (v := .sc _) rfl hihj14_0 (by kernel_rfl) (by kernel_rfl) (by kernel_rfl) (by exact Nat.zero_lt_one) (by decide) rfl) trivial ?_
   refine p_step rfl (e_build (cs := Stock.enc (⟨m.part, m.til, m.after, m.count⟩ : Stock)) (zs := [.str ByteArray.empty, .int 0, .int 0, .int 0]) (pl := [(0, 1, false), (1, 1, false), (2, 1, false), (3, 1, false)]) (by kernel_rfl) (by kernel_rfl) (by kernel_rfl) rfl rfl (by exact ⟨by decide, rfl, Nat.le_of_ble_eq_true rfl, rfl, ⟨by decide, rfl, Nat.le_of_ble_eq_true rfl, rfl, ⟨by decide, rfl, Nat.le_of_ble_eq_true rfl, rfl, ⟨by decide, rfl, Nat.le_of_ble_eq_true rfl, rfl, trivial⟩⟩⟩⟩) rfl) trivial ?_
   refine p_call rfl (.cons (LitV.inn hlv) (.cons (inn_agg (Stock.pure _)) .nil)) (PutF xs (⟨m.part, m.til, m.after, m.count⟩ : Stock) (by first | omega | (simp only [List.length_append, List.length_cons, List.length_nil]; omega)) (by first | exact hcb | exact bd_snoc hcb (by first | exact ⟨by show -1000000 ≤ (0 - m.count); omega, by show (0 - m.count) ≤ 1000000; omega⟩ | exact ⟨by show -1000000 ≤ m.count; omega, by show m.count ≤ 1000000; omega⟩)) (by first | exact ⟨by show -1000000 ≤ (0 - m.count); omega, by show (0 - m.count) ≤ 1000000; omega⟩ | exact ⟨by show -1000000 ≤ m.count; omega, by show m.count ≤ 1000000; omega⟩)) ?_
   refine p_step rfl (e_assign (v := .lit _ _ _) rfl) trivial ?_
   refine p_end (hK38 _ ?_); clear hK38 K38
   refine seq_norm (hK36 _ ?_); clear hK36 K36
   refine pwp_seq_plain rfl fun K39 hK39 => ?_
   refine p_step rfl (e_move (v := .lit _ _ _) rfl) trivial ?_
   refine p_call rfl (.cons inn_lit .nil) (settled (putF [] (xs ++ [(⟨m.part, m.til, m.after, m.count⟩ : Stock)])) (by have := putF_len ((xs ++ [(⟨m.part, m.til, m.after, m.count⟩ : Stock)])) []; simp only [List.length_nil, List.length_append, List.length_cons] at this; omega)) ?_
   refine p_step rfl (e_ext (v := .lit _ _ _) rfl (by simp) rfl) trivial ?_
   refine p_step rfl (e_ext (v := .sc _) rfl (by simp) rfl) trivial ?_
   refine p_step rfl (e_assign (v := .lit _ _ _) rfl) trivial ?_
   refine p_step rfl (e_assign (v := .sc _) rfl) trivial ?_
   refine p_end (hK39 _ ?_); clear hK39 K39
   refine pwp_ret ?_
   refine end2 (v := .lit _ _ _) (w := .sc _) rfl rfl ?_
   exact rm_out (rm_3 (by assumption) (fun h9 => by have := h9.1; have := h9.2; omega) (by rw [ex_t (by omega) (by omega)]))
  have hb37R := hb37; simp only [z1, z2, z3, z4, z5, z6, ne_eq, z7, z8, z9, z10, z11, z12] at hb37
  refine pwp_skip ?_
  refine seq_norm (hK36 _ ?_); clear hK36 K36
  refine pwp_seq_plain rfl fun K40 hK40 => ?_
  refine p_step rfl (e_move (v := _) rfl) trivial ?_
  refine p_call rfl (.cons (LitV.inn hlv) .nil) (settled (putF [] xs) (by have := putF_len (xs) []; simp only [List.length_nil, List.length_append, List.length_cons] at this; omega)) ?_
  refine p_step rfl (e_ext (v := .lit _ _ _) rfl (by simp) rfl) trivial ?_
  refine p_step rfl (e_ext (v := .sc _) rfl (by simp) rfl) trivial ?_
  refine p_step rfl (e_assign (v := .lit _ _ _) rfl) trivial ?_
  refine p_step rfl (e_assign (v := .sc _) rfl) trivial ?_
  refine p_end (hK40 _ ?_); clear hK40 K40
  refine pwp_ret ?_
  refine end2 (v := .lit _ _ _) (w := .sc _) rfl rfl ?_
  exact rm_out (rm_3 (by assumption) (fun h9 => by have := h9.1; have := h9.2; omega) (by rw [ex_0 (by omega) (by omega), List.append_nil]))

end Go.Proofs.YtigdmkhdmbbfiaaDoor

/- Movements one after the other; the law of rows. No conditions. -/
set_option linter.unusedSimpArgs false
set_option linter.unusedVariables false
set_option maxRecDepth 100000
set_option maxHeartbeats 8000000
namespace Go.Proofs.YtigdmkhdmbbfiaaDoor
open Go Go.Pv

/-! ### What a stock behind a movement is -/
theorem lstG_mem {m : Sto} : ∀ (ks : List Kx) (acc : List Stock), (lstG m acc ks).1 = 0 → ∀ e ∈ (lstG m acc ks).2, e ∈ acc ∨ ∃ k ∈ ks, e = ⟨k.part, k.place, k.state, getS k m⟩ ∧ 0 < getS k m ∧ getS k m ≤ 1000000
  | [], acc, _, e, he => .inl he
  | k :: ks, acc, h, e, he => by
    unfold lstG at h he
    by_cases h1 : 1000000 < getS k m
    · rw [if_pos h1] at h; cases h
    · rw [if_neg h1] at h he
      rcases lstG_mem ks _ h e he with h2 | ⟨k', h2, h3⟩
      · by_cases h4 : 0 < getS k m
        · rw [if_pos h4] at h2
          rcases List.mem_append.1 h2 with h5 | h5
          · exact .inl h5
          · simp only [List.mem_singleton] at h5
            exact .inr ⟨k, List.mem_cons_self, h5, h4, by omega⟩
        · rw [if_neg h4] at h2; exact .inl h2
      · exact .inr ⟨k', List.mem_cons_of_mem _ h2, h3⟩
theorem keysS_mem {m : Sto} {k : Kx} : k ∈ keysS m ↔ k ∈ m.map (·.1) := by
  unfold keysS
  constructor
  · intro h
    obtain ⟨y, hy, rfl⟩ := List.mem_map.1 h
    rw [(sortSh_perm _).mem_iff] at hy
    obtain ⟨e, he, rfl⟩ := List.mem_map.1 hy
    exact List.mem_map.2 ⟨e, he, rfl⟩
  · intro h
    obtain ⟨e, he, rfl⟩ := List.mem_map.1 h
    refine List.mem_map.2 ⟨kSh e.1, ?_, rfl⟩
    rw [(sortSh_perm _).mem_iff]
    exact List.mem_map.2 ⟨e, he, rfl⟩
theorem listS_cases (m : Sto) : ((listS m).1 = 0 ∧ (lstG m [] (keysS m)).1 = 0 ∧ listS m = lstG m [] (keysS m) ∧ (listS m).2.length ≤ 200) ∨ (listS m).1 ≠ 0 ∧ (listS m).2 = [] := by
  unfold listS
  dsimp only
  by_cases h : (lstG m [] (keysS m)).1 = 0
  · rw [if_pos h]
    by_cases h2 : 200 < (lstG m [] (keysS m)).2.length
    · rw [if_pos h2]; exact .inr ⟨by decide, rfl⟩
    · rw [if_neg h2]; exact .inl ⟨h, h, rfl, by omega⟩
  · rw [if_neg h]; exact .inr ⟨h, rfl⟩
theorem listS_mem {m : Sto} : ∀ e ∈ (listS m).2, keyS e ∈ m.map (·.1) ∧ 0 < e.count ∧ e.count ≤ 1000000 := fun e he => by
  rcases listS_cases m with ⟨_, h2, h3, _⟩ | ⟨_, h2⟩
  · rw [h3] at he
    rcases lstG_mem _ _ h2 e he with h4 | ⟨k, h4, rfl, h5⟩
    · simp at h4
    · exact ⟨keysS_mem.1 h4, h5⟩
  · rw [h2] at he; simp at he
theorem moveR_mem {xs : List Stock} {m : Movement} : ∀ e ∈ (moveR xs m).2, (stockE xs = 0 ∧ mvE m = 0) ∧ (∃ x ∈ xs ++ (extF m ++ extT m), keyS e = keyS x) ∧ 0 < e.count ∧ e.count ≤ 1000000 := fun e he => by
  unfold moveR at he
  by_cases h1 : stockE xs = 0
  · rw [if_neg (by simpa using h1)] at he
    by_cases h2 : mvE m = 0
    · rw [if_neg (by simpa using h2)] at he
      by_cases h3 : lack xs m
      · rw [if_pos h3] at he; simp at he
      · rw [if_neg h3] at he
        obtain ⟨h4, h5⟩ := listS_mem e he
        rw [sumS_keys] at h4
        rcases h4 with h4 | h4
        · simp at h4
        · obtain ⟨x, hx, hk⟩ := List.mem_map.1 h4
          exact ⟨⟨h1, h2⟩, ⟨x, hx, hk.symm⟩, h5⟩
    · rw [if_pos h2] at he; simp at he
  · rw [if_pos h1] at he; simp at he
theorem keyS_part {x y : Stock} (h : keyS x = keyS y) : x.part = y.part ∧ x.place = y.place ∧ x.state = y.state := by
  unfold keyS at h; simpa using h
theorem moveR_part {xs : List Stock} {m : Movement} (hs : ∀ x ∈ xs, x.part.size ≤ 30) (hm : m.part.size ≤ 30) : ∀ e ∈ (moveR xs m).2, e.part.size ≤ 30 := fun e he => by
  obtain ⟨_, ⟨x, hx, hk⟩, _⟩ := moveR_mem e he
  rw [(keyS_part hk).1]
  rcases List.mem_append.1 hx with hx | hx
  · exact hs x hx
  · exact ext_size hm x hx
theorem goS_name : ∀ {l : List Stock}, goS l = 0 → ∀ x ∈ l, isNm x.part = true
  | [], _, x, hx => by simp at hx
  | y :: l, h, x, hx => by
    unfold goS at h
    split at h
    · cases h
    · rename_i h1
      split at h
      · cases h
      · rcases List.mem_cons.1 hx with rfl | hx
        · simpa using h1
        · exact goS_name h x hx
theorem goS_of : ∀ {l : List Stock}, (∀ x ∈ l, isNm x.part = true ∧ ¬ badS x) → goS l = 0
  | [], _ => rfl
  | y :: l, h => by
    unfold goS
    rw [if_neg (by simp [(h y List.mem_cons_self).1]), if_neg (h y List.mem_cons_self).2]
    exact goS_of fun x hx => h x (List.mem_cons_of_mem _ hx)
theorem stockE_name {l : List Stock} (h : stockE l = 0) : ∀ x ∈ l, isNm x.part = true := by
  unfold stockE at h
  split at h
  · cases h
  · exact goS_name h
theorem moveR_len (xs : List Stock) (m : Movement) : (moveR xs m).2.length ≤ 200 := by
  unfold moveR
  split
  · simp
  · split
    · simp
    · split
      · simp
      · rcases listS_cases (sumS [] (xs ++ (extF m ++ extT m))) with ⟨_, _, _, h⟩ | ⟨_, h⟩
        · exact h
        · rw [h]; simp
theorem ext_ok {m : Movement} (h : mvE m = 0) : ∀ x ∈ extF m ++ extT m, isNm x.part = true ∧ (0 ≤ x.place ∧ x.place ≤ 99) ∧ 0 ≤ x.state ∧ x.state ≤ 3 := fun x hx => by
  obtain ⟨h1, h2, _⟩ := mvE_ok h
  unfold rngQ at h2
  rcases List.mem_append.1 hx with hx | hx
  · unfold extF at hx
    split at hx
    · rename_i h3
      simp only [List.mem_singleton] at hx; subst hx
      exact ⟨h1, ⟨show 0 ≤ m.fro by omega, show m.fro ≤ 99 by omega⟩, show 0 ≤ m.before by omega, show m.before ≤ 3 by omega⟩
    · simp at hx
  · unfold extT at hx
    split at hx
    · rename_i h3
      simp only [List.mem_singleton] at hx; subst hx
      exact ⟨h1, ⟨show 0 ≤ m.til by omega, show m.til ≤ 99 by omega⟩, show 0 ≤ m.after by omega, show m.after ≤ 3 by omega⟩
    · simp at hx
theorem moveR_ok {xs : List Stock} {m : Movement} : stockE (moveR xs m).2 = 0 := by
  rw [stockE_le (moveR_len xs m)]
  refine goS_of fun e he => ?_
  obtain ⟨⟨h1, h2⟩, ⟨x, hx, hk⟩, h3⟩ := moveR_mem e he
  obtain ⟨k1, k2, k3⟩ := keyS_part hk
  unfold badS
  rw [k1, k2, k3]
  rcases List.mem_append.1 hx with hx | hx
  · have := (stockE_ok h1).2 x hx
    exact ⟨stockE_name h1 x hx, by omega⟩
  · have := ext_ok h2 x hx
    exact ⟨this.1, by omega⟩
/-! ### Movements one after the other -/
def goMv (F : List Stock → Movement → Int × List Stock) (xs : List Stock) (i : Int) : List Movement → List Stock × Int × Int
  | [] => (xs, i, 0)
  | m :: l => if ¬ (F xs m).1 = 0 then ([], i, (F xs m).1) else goMv F (F xs m).2 (i + 1) l
theorem gm_1 {F : List Stock → Movement → Int × List Stock} {xs : List Stock} {i : Int} {m : Movement} {l : List Movement} {R : List Stock × Int × Int} (h : R = goMv F xs i (m :: l)) (h2 : ¬ (F xs m).1 = 0) : R = ([], i, (F xs m).1) := by rw [h, goMv, if_pos h2]
theorem gm_2 {F : List Stock → Movement → Int × List Stock} {xs : List Stock} {i : Int} {m : Movement} {l : List Movement} {R : List Stock × Int × Int} (h : R = goMv F xs i (m :: l)) (h2 : (F xs m).1 = 0) : R = goMv F (F xs m).2 (i + 1) l := by rw [h, goMv, if_neg (by simpa using h2)]
def movesR (xs : List Stock) (ms : List Movement) : List Stock × Int × Int := if ms.length = 0 then ((normR xs).2, 0, (normR xs).1) else goMv moveR xs 0 ms
def refMovesR (xs : List Stock) (ms : List Movement) : List Stock × Int × Int := if ms.length = 0 then ((settS (putF [] xs)).2, 0, (settS (putF [] xs)).1) else goMv refMoveR xs 0 ms
theorem mvs_0 {xs : List Stock} {ms : List Movement} (h : ms.length = 0) : movesR xs ms = ((normR xs).2, 0, (normR xs).1) := if_pos h
theorem mvs_1 {xs : List Stock} {ms : List Movement} {R : List Stock × Int × Int} (h : ¬ ms.length = 0) (h2 : goMv moveR xs 0 ms = R) : movesR xs ms = R := by rw [movesR, if_neg h, h2]
theorem rms_0 {xs : List Stock} {ms : List Movement} (h : ms.length = 0) : refMovesR xs ms = ((settS (putF [] xs)).2, 0, (settS (putF [] xs)).1) := if_pos h
theorem rms_1 {xs : List Stock} {ms : List Movement} {R : List Stock × Int × Int} (h : ¬ ms.length = 0) (h2 : goMv refMoveR xs 0 ms = R) : refMovesR xs ms = R := by rw [refMovesR, if_neg h, h2]
theorem goMv_ref : ∀ (ms : List Movement) (xs : List Stock) (i : Int), stockE xs = 0 → goMv moveR xs i ms = goMv refMoveR xs i ms
  | [], _, _, _ => rfl
  | m :: ms, xs, i, h => by
    unfold goMv
    rw [← move_ref h]
    split
    · rfl
    · exact goMv_ref ms _ _ moveR_ok
theorem nrm_ref {xs : List Stock} (h : stockE xs = 0) : normR xs = settS (putF [] xs) := by
  rw [settS_listS fun x hx => ((stockE_ok h).2 x hx).2.2.1, normR, if_pos h]
theorem moves_ref {xs : List Stock} {ms : List Movement} (h : stockE xs = 0) : movesR xs ms = refMovesR xs ms := by
  unfold movesR refMovesR
  rw [nrm_ref h, goMv_ref ms xs 0 h]
theorem moves_err {xs : List Stock} {ms : List Movement} (h : ¬ stockE xs = 0) : movesR xs ms = ([], 0, stockE xs) := by
  unfold movesR
  cases ms with
  | nil => rw [if_pos (by rfl), norm_1 h]
  | cons m ms => rw [if_neg (by simp), goMv, mo_1 h, if_pos (by simpa using h)]
theorem normR_len (xs : List Stock) : (normR xs).2.length ≤ 200 := by
  unfold normR
  split
  · rcases listS_cases (sumS [] xs) with ⟨_, _, _, h⟩ | ⟨_, h⟩
    · exact h
    · rw [h]; simp
  · simp
theorem goMv_len : ∀ (ms : List Movement) (xs : List Stock) (i : Int), ms ≠ [] → (goMv moveR xs i ms).1.length ≤ 200
  | [m], xs, i, _ => by
    unfold goMv goMv
    split
    · simp
    · exact moveR_len _ _
  | m :: m' :: ms, xs, i, _ => by
    unfold goMv
    split
    · simp
    · exact goMv_len (m' :: ms) _ _ (by simp)
theorem movesR_len (xs : List Stock) (ms : List Movement) : (movesR xs ms).1.length ≤ 200 := by
  unfold movesR
  split
  · exact normR_len xs
  · rename_i h; exact goMv_len ms xs 0 (fun e => h (by rw [e]; rfl))
/-- Nothing, or a list that no caller changes. -/
def LitF (v : PV) (sz : Nat) (rows : List (List PV)) : Prop := (v = .nil ∧ rows = []) ∨ v = .lit false sz rows
theorem LitF.out {h : Heap} {v : PV} {l : List Stock} (hl : LitF v 4 (l.map Stock.enc)) : Out h v (.lit false 4 (l.map Stock.enc)) := by
  rcases hl with ⟨rfl, e⟩ | rfl
  · rw [e]; exact .nil 4
  · exact .clean (.lit _ _ (fun row hr p hp => by obtain ⟨a, _, rfl⟩ := List.mem_map.1 hr; exact (stock_clean a p hp).1))
theorem tr_out {h : Heap} {r : List Stock × Int × Int} {l : List Stock} {i e : Int} {v : PV} (hr : r = (l, i, e)) (hl : LitF v 4 (l.map Stock.enc)) : Out h (.tup [v, .int i, .int e]) (.tup [.lit false 4 (r.1.map Stock.enc), .int r.2.1, .int r.2.2]) := by
  rw [hr]; exact out_3 hl.out (out_i rfl) (out_i rfl)
theorem tr_out0 {h : Heap} {r : List Stock × Int × Int} {i e : Int} (hr : r = ([], i, e)) : Out h (.tup [.nil, .int i, .int e]) (.tup [.lit false 4 (r.1.map Stock.enc), .int r.2.1, .int r.2.2]) := tr_out hr (.inl ⟨rfl, rfl⟩)

theorem pure_3 {a b c : PV} (h1 : Pure a) (h2 : Pure b) (h3 : Pure c) : Pure (.tup [a, b, c]) := .tup _ fun p hp => by
  simp only [List.mem_cons, List.not_mem_nil, or_false] at hp
  rcases hp with rfl | rfl | rfl <;> assumption

theorem fr18 : (inFrame Tryd.f18.ntmps (Tryd.f18.body.getD .skip) && Tryd.f18.results.toList.all (resScope Tryd.f18.ntmps)) = true := by kernel_rfl
theorem MovesS (xs : List Stock) (ms : List Movement) (hl : xs.length ≤ 220) (hs : ∀ x ∈ xs, x.part.size ≤ 30) (hml : ms.length ≤ 100000) (hm : ∀ m ∈ ms, m.part.size ≤ 30) : PCalls Tryd.prog 18 [.lit true 4 (xs.map Stock.enc), .lit true 6 (ms.map Movement.enc)] (.tup [.lit false 4 ((movesR xs ms).1.map Stock.enc), .int (movesR xs ms).2.1, .int (movesR xs ms).2.2]) := by
  refine PCalls.of_code Tryd.func18 rfl rfl (by kernel_rfl) mixed fr18 (by show _ ≤ 45; simp) (pure_3 (.lit _ _ _ fun row hr => pure_map Stock.pure row hr) (.sc _) (.sc _)) ?_
  refine pwp_seq_plain rfl fun K1 hK1 => ?_
  refine p_step rfl (e_assign (v := .nil) rfl) trivial ?_
  refine p_step rfl (e_assign (v := .sc _) rfl) trivial ?_
  refine p_step rfl (e_assign (v := .sc _) rfl) trivial ?_
  refine p_end (hK1 _ ?_); clear hK1 K1
  refine pwp_seq_seq ?_
  refine pwp_seq_plain rfl fun K2 hK2 => ?_
  refine p_step rfl (e_move (v := .lit _ _ _) rfl) trivial ?_
  refine p_step rfl (e_len rfl (by kernel_rfl)) trivial ?_
  refine p_step rfl (e_eq rfl rfl) trivial ?_
  refine p_end (hK2 _ ?_); clear hK2 K2
  refine pwp_seq_cond rfl fun K3 hK3 => ⟨fun hb4 => ?_, fun hb4 => ?_⟩
  ·have hb4R := hb4; try simp only [z1, z2, z3, z4, z5, z6, ne_eq, z7, z8, z9, z10, z11, z12] at hb4
   refine pwp_seq_plain rfl fun K5 hK5 => ?_
   refine p_step rfl (e_move (v := .lit _ _ _) rfl) trivial ?_
   refine p_call rfl (.cons inn_lit .nil) (NormalS _ hl hs) ?_
   refine p_step rfl (e_move (v := .tup _) rfl) trivial ?_
   refine p_step rfl (e_ext (v := .lit _ _ _) rfl (by simp) rfl) trivial ?_
   refine p_step rfl (e_ext (v := .sc _) rfl (by simp) rfl) trivial ?_
   refine p_step rfl (e_assign (v := .lit _ _ _) rfl) trivial ?_
   refine p_step rfl (e_assign (v := .sc _) rfl) trivial ?_
   refine p_end (hK5 _ ?_); clear hK5 K5
   refine pwp_seq_plain rfl fun K6 hK6 => ?_
   refine p_step rfl (e_move (v := .lit _ _ _) rfl) trivial ?_
   refine p_step rfl (e_move (v := .sc _) rfl) trivial ?_
   refine p_step rfl (e_assign (v := .lit _ _ _) rfl) trivial ?_
   refine p_step rfl (e_assign (v := .sc _) rfl) trivial ?_
   refine p_step rfl (e_assign (v := .sc _) rfl) trivial ?_
   refine p_end (hK6 _ ?_); clear hK6 K6
   refine pwp_ret ?_
   refine ret_seq ?_
   refine end3 (v := .lit _ _ _) (w := .sc _) (x := .sc _) rfl rfl rfl ?_
   exact tr_out (mvs_0 (by omega)) (.inr rfl)
  have hb4R := hb4; try simp only [z1, z2, z3, z4, z5, z6, ne_eq, z7, z8, z9, z10, z11, z12] at hb4
  refine pwp_skip ?_
  refine seq_norm (hK3 _ ?_); clear hK3 K3
  refine pwp_seq_seq ?_
  refine pwp_seq_plain rfl fun K7 hK7 => ?_
  refine p_step rfl (e_move (v := .lit _ _ _) rfl) trivial ?_
  refine p_step rfl (e_len rfl (by kernel_rfl)) trivial ?_
  refine p_step rfl (e_move (v := .sc _) rfl) trivial ?_
  refine p_end (hK7 _ ?_); clear hK7 K7
  refine pwp_seq_block fun K8 hK8 => ?_
  refine pwp_loopR (α := Nat × (List Stock) × PV) [1, 23, 24] (fun (a9 : Nat × (List Stock) × PV) => [(0, (a9.2.2)), (25, .int (a9.1))]) (fun (a9 : Nat × (List Stock) × PV) (h : Heap) (_ : Nat → Nat) => ((a9.1) ≤ ms.length) ∧ (LitV (a9.2.2) 4 ((a9.2.1).map Stock.enc)) ∧ (0 < (a9.1) → LitF (a9.2.2) 4 ((a9.2.1).map Stock.enc)) ∧ ((a9.2.1).length ≤ 220) ∧ (∀ y ∈ (a9.2.1), y.part.size ≤ 30) ∧ (goMv moveR xs 0 ms = goMv moveR (a9.2.1) ((a9.1) : Int) (ms.drop (a9.1)))) (fun (a9 : Nat × (List Stock) × PV) => ms.length - (a9.1)) (0, xs, _) (by exact ⟨rfl, rfl, trivial⟩) (by exact ⟨by exact Nat.zero_le _, by exact LitV.lit, by exact fun h => absurd h (Nat.lt_irrefl 0), by assumption, by assumption, by exact rfl⟩) fun a9 r10 h11 c12 hj13 => ?_
  obtain ⟨k, ys, v⟩ := a9
  obtain ⟨hk, hlv, hlf, hyl, hys, hinv⟩ := hj13
  try dsimp only at hk
  try dsimp only at hlv
  try dsimp only at hlf
  try dsimp only at hyl
  try dsimp only at hys
  try dsimp only at hinv
  show pwp _ _ (loopQ _ _ _) ⟨sets (mix _ _ _) [(0, v), (25, .int k)], _, _⟩
  refine pwp_seq_plain rfl fun K14 hK14 => ?_
  refine p_step rfl (e_lt rfl rfl) trivial ?_
  refine p_end (hK14 _ ?_); clear hK14 K14
  refine pwp_seq_cond rfl fun K15 hK15 => ⟨fun hb16 => ?_, fun hb16 => ?_⟩
  ·have hb16R := hb16; try simp only [z1, z2, z3, z4, z5, z6, ne_eq, z7, z8, z9, z10, z11, z12] at hb16
   obtain ⟨x, hx, hd, ht⟩ := get_lt (xs := ms) (i := k) (by omega)
   rw [hd] at hinv
   have hxp := hm x (List.mem_of_getElem? hx)
   refine pwp_skip ?_
   refine seq_norm (hK15 _ ?_); clear hK15 K15
   refine pwp_seq_block fun K17 hK17 => ?_
   refine pwp_seq_plain rfl fun K18 hK18 => ?_
   refine p_step rfl (e_move (v := .sc _) rfl) trivial ?_
   refine p_step rfl (e_ixa rfl rfl (by kernel_rfl) (by kernel_rfl) (by simp only [List.length_map]; omega)) trivial ?_
   refine p_step rfl (e_loadA (n := 6) rfl (by kernel_rfl) (by kernel_rfl) (by kernel_rfl) (by simp only [List.length_map]; omega) (by decide) (by first | exact agg_map hx rfl)) trivial ?_
   refine p_new rfl (e_alloc (cs := [.str ByteArray.empty, .int 0, .int 0, .int 0, .int 0, .int 0]) (n := 6) (by kernel_rfl) rfl (by decide)) (ob_alloc (by decide)) ?_
   refine p_step rfl (e_assign (v := .sc _) rfl) trivial ?_
   refine p_store rfl (e_storeA rfl (hset_self _ _ _) rfl rfl rfl (by kernel_rfl) rfl (by kernel_rfl)) trivial ?_
   refine p_end (hK18 _ ?_); clear hK18 K18
   refine pwp_seq_plain rfl fun K19 hK19 => ?_
   refine p_step rfl (e_move (v := _) rfl) trivial ?_
   refine p_step rfl (e_loadHA (n := 6) rfl (hset_self _ _ _) (by kernel_rfl) (by kernel_rfl) (by kernel_rfl) (by exact Nat.zero_lt_one) (by decide) rfl) trivial ?_
   refine p_call rfl (.cons (LitV.inn hlv) (.cons (inn_agg (Movement.pure _)) .nil)) (MoveS _ _ hyl hys hxp) ?_
   refine p_step rfl (e_move (v := .tup _) rfl) trivial ?_
   refine p_step rfl (e_ext (v := .lit _ _ _) rfl (by simp) rfl) trivial ?_
   refine p_step rfl (e_ext (v := .sc _) rfl (by simp) rfl) trivial ?_
   refine p_step rfl (e_assign (v := .lit _ _ _) rfl) trivial ?_
   refine p_step rfl (e_assign (v := .sc _) rfl) trivial ?_
   refine p_end (hK19 _ ?_); clear hK19 K19
   refine pwp_seq_seq ?_
   refine pwp_seq_plain rfl fun K20 hK20 => ?_
   refine p_step rfl (e_move (v := .sc _) rfl) trivial ?_
   refine p_step rfl (e_ne rfl rfl) trivial ?_
   refine p_end (hK20 _ ?_); clear hK20 K20
   refine pwp_seq_cond rfl fun K21 hK21 => ⟨fun hb22 => ?_, fun hb22 => ?_⟩
   ·have hb22R := hb22; try simp only [z1, z2, z3, z4, z5, z6, ne_eq, z7, z8, z9, z10, z11, z12] at hb22
    refine pwp_seq_plain rfl fun K23 hK23 => ?_
    refine p_step rfl (e_move (v := .sc _) rfl) trivial ?_
    refine p_step rfl (e_move (v := .sc _) rfl) trivial ?_
    refine p_step rfl (e_assign (v := .nil) rfl) trivial ?_
    refine p_step rfl (e_assign (v := .sc _) rfl) trivial ?_
    refine p_step rfl (e_assign (v := .sc _) rfl) trivial ?_
    refine p_end (hK23 _ ?_); clear hK23 K23
    refine pwp_ret ?_
    refine ret_seq ?_
    refine ret_block ?_
    refine ret_seq ?_
    refine ret_loop ?_
    refine ret_block ?_
    refine ret_seq ?_
    refine end3 (v := .nil) (w := .sc _) (x := .sc _) rfl rfl rfl ?_
    exact tr_out0 (mvs_1 (by omega) (gm_1 hinv (by assumption)))
   have hb22R := hb22; try simp only [z1, z2, z3, z4, z5, z6, ne_eq, z7, z8, z9, z10, z11, z12] at hb22
   refine pwp_skip ?_
   refine seq_norm (hK21 _ ?_); clear hK21 K21
   refine pwp_plain rfl fun K24 hK24 => ?_
   refine p_step rfl (e_move (v := .lit _ _ _) rfl) trivial ?_
   refine p_step rfl (e_assign (v := .lit _ _ _) rfl) trivial ?_
   refine p_end (hK24 _ ?_); clear hK24 K24
   refine block_norm ?_
   refine seq_norm (hK17 _ ?_); clear hK17 K17
   refine pwp_plain rfl fun K25 hK25 => ?_
   refine p_step rfl (e_add rfl rfl (by omega)) trivial ?_
   refine p_step rfl (e_move (v := .sc _) rfl) trivial ?_
   refine p_end (hK25 _ ?_); clear hK25 K25
   exact loop_again ((k + 1, (moveR ys x).2, _)) (by show _ < _; simp only; omega) ⟨rfl, rfl, rfl, trivial⟩ ⟨rfl, rfl, trivial⟩ (by exact ⟨by show _ + 1 ≤ _; omega, by exact LitV.lit, by exact fun _ => .inr rfl, by exact Nat.le_trans (moveR_len _ _) (by decide), by exact moveR_part hys hxp, by exact gm_2 hinv (by assumption)⟩)
  have hb16R := hb16; try simp only [z1, z2, z3, z4, z5, z6, ne_eq, z7, z8, z9, z10, z11, z12] at hb16
  obtain rfl : k = ms.length := by omega
  rw [List.drop_length] at hinv; simp only [goMv] at hinv
  refine pwp_exit ?_
  refine exit_seq ?_
  clear hK15 K15
  refine exit_loop ?_
  refine exit_here ?_
  refine seq_norm (hK8 _ ?_); clear hK8 K8
  refine pwp_seq_plain rfl fun K26 hK26 => ?_
  refine p_step rfl (e_move (v := _) rfl) trivial ?_
  refine p_step rfl (e_move (v := .lit _ _ _) rfl) trivial ?_
  refine p_step rfl (e_len rfl (by kernel_rfl)) trivial ?_
  refine p_step rfl (e_assign (v := _) rfl) trivial ?_
  refine p_step rfl (e_assign (v := .sc _) rfl) trivial ?_
  refine p_step rfl (e_assign (v := .sc _) rfl) trivial ?_
  refine p_end (hK26 _ ?_); clear hK26 K26
  refine pwp_ret ?_
  refine end3 (v := _) (w := .sc _) (x := .sc _) rfl rfl rfl ?_
  exact tr_out (mvs_1 (by omega) (by rw [hinv, List.length_map])) (hlf (by omega))

theorem fr19 : (inFrame Tryd.f19.ntmps (Tryd.f19.body.getD .skip) && Tryd.f19.results.toList.all (resScope Tryd.f19.ntmps)) = true := by kernel_rfl
theorem refMoves (xs : List Stock) (ms : List Movement) (hl : xs.length ≤ 220) (hs : ∀ x ∈ xs, x.part.size ≤ 30) (hml : ms.length ≤ 100000) (hm : ∀ m ∈ ms, m.part.size ≤ 30) (h0 : stockE xs = 0) : PCalls Tryd.prog 19 [.lit true 4 (xs.map Stock.enc), .lit true 6 (ms.map Movement.enc)] (.tup [.lit false 4 ((refMovesR xs ms).1.map Stock.enc), .int (refMovesR xs ms).2.1, .int (refMovesR xs ms).2.2]) := by
  refine PCalls.of_code Tryd.func19 rfl rfl (by kernel_rfl) mixed fr19 (by show _ ≤ 43; simp) (pure_3 (.lit _ _ _ fun row hr => pure_map Stock.pure row hr) (.sc _) (.sc _)) ?_
  refine pwp_seq_plain rfl fun K1 hK1 => ?_
  refine p_step rfl (e_assign (v := .nil) rfl) trivial ?_
  refine p_step rfl (e_assign (v := .sc _) rfl) trivial ?_
  refine p_step rfl (e_assign (v := .sc _) rfl) trivial ?_
  refine p_end (hK1 _ ?_); clear hK1 K1
  refine pwp_seq_plain rfl fun K2 hK2 => ?_
  refine p_step rfl (e_move (v := .lit _ _ _) rfl) trivial ?_
  refine p_call rfl (.cons inn_lit .nil) (refNormal _ h0) ?_
  refine p_step rfl (e_move (v := .tup _) rfl) trivial ?_
  refine p_step rfl (e_ext (v := .lit _ _ _) rfl (by simp) rfl) trivial ?_
  refine p_step rfl (e_ext (v := .sc _) rfl (by simp) rfl) trivial ?_
  refine p_step rfl (e_assign (v := .lit _ _ _) rfl) trivial ?_
  refine p_step rfl (e_assign (v := .sc _) rfl) trivial ?_
  refine p_end (hK2 _ ?_); clear hK2 K2
  refine pwp_seq_seq ?_
  refine pwp_seq_plain rfl fun K3 hK3 => ?_
  refine p_step rfl (e_move (v := .lit _ _ _) rfl) trivial ?_
  refine p_step rfl (e_len rfl (by kernel_rfl)) trivial ?_
  refine p_step rfl (e_eq rfl rfl) trivial ?_
  refine p_end (hK3 _ ?_); clear hK3 K3
  refine pwp_seq_cond rfl fun K4 hK4 => ⟨fun hb5 => ?_, fun hb5 => ?_⟩
  ·have hb5R := hb5; try simp only [z1, z2, z3, z4, z5, z6, ne_eq, z7, z8, z9, z10, z11, z12] at hb5
   refine pwp_seq_plain rfl fun K6 hK6 => ?_
   refine p_step rfl (e_move (v := .lit _ _ _) rfl) trivial ?_
   refine p_step rfl (e_move (v := .sc _) rfl) trivial ?_
   refine p_step rfl (e_assign (v := .lit _ _ _) rfl) trivial ?_
   refine p_step rfl (e_assign (v := .sc _) rfl) trivial ?_
   refine p_step rfl (e_assign (v := .sc _) rfl) trivial ?_
   refine p_end (hK6 _ ?_); clear hK6 K6
   refine pwp_ret ?_
   refine ret_seq ?_
   refine end3 (v := .lit _ _ _) (w := .sc _) (x := .sc _) rfl rfl rfl ?_
   exact tr_out (rms_0 (by omega)) (.inr rfl)
  have hb5R := hb5; try simp only [z1, z2, z3, z4, z5, z6, ne_eq, z7, z8, z9, z10, z11, z12] at hb5
  refine pwp_skip ?_
  refine seq_norm (hK4 _ ?_); clear hK4 K4
  refine pwp_seq_plain rfl fun K7 hK7 => ?_
  refine p_step rfl (e_move (v := .lit _ _ _) rfl) trivial ?_
  refine p_step rfl (e_assign (v := .lit _ _ _) rfl) trivial ?_
  refine p_end (hK7 _ ?_); clear hK7 K7
  refine pwp_seq_seq ?_
  refine pwp_seq_plain rfl fun K8 hK8 => ?_
  refine p_step rfl (e_assign (v := .sc _) rfl) trivial ?_
  refine p_end (hK8 _ ?_); clear hK8 K8
  refine pwp_seq_block fun K9 hK9 => ?_
  refine pwp_loopR (α := Nat × (List Stock) × PV) [1] (fun (a10 : Nat × (List Stock) × PV) => [(7, (a10.2.2)), (9, .int (a10.1))]) (fun (a10 : Nat × (List Stock) × PV) (h : Heap) (_ : Nat → Nat) => ((a10.1) ≤ ms.length) ∧ (LitV (a10.2.2) 4 ((a10.2.1).map Stock.enc)) ∧ (0 < (a10.1) → LitF (a10.2.2) 4 ((a10.2.1).map Stock.enc)) ∧ ((a10.2.1).length ≤ 220) ∧ (∀ y ∈ (a10.2.1), y.part.size ≤ 30) ∧ (goMv refMoveR xs 0 ms = goMv refMoveR (a10.2.1) ((a10.1) : Int) (ms.drop (a10.1))) ∧ (stockE (a10.2.1) = 0)) (fun (a10 : Nat × (List Stock) × PV) => ms.length - (a10.1)) (0, xs, _) (by exact ⟨rfl, rfl, trivial⟩) (by exact ⟨by exact Nat.zero_le _, by exact LitV.lit, by exact fun h => absurd h (Nat.lt_irrefl 0), by assumption, by assumption, by exact rfl, by exact h0⟩) fun a10 r11 h12 c13 hj14 => ?_
  obtain ⟨k, ys, v⟩ := a10
  obtain ⟨hk, hlv, hlf, hyl, hys, hinv, hye⟩ := hj14
  try dsimp only at hk
  try dsimp only at hlv
  try dsimp only at hlf
  try dsimp only at hyl
  try dsimp only at hys
  try dsimp only at hinv
  try dsimp only at hye
  show pwp _ _ (loopQ _ _ _) ⟨sets (mix _ _ _) [(7, v), (9, .int k)], _, _⟩
  refine pwp_seq_seq ?_
  refine pwp_seq_plain rfl fun K15 hK15 => ?_
  refine p_step rfl (e_move (v := .sc _) rfl) trivial ?_
  refine p_step rfl (e_move (v := .lit _ _ _) rfl) trivial ?_
  refine p_step rfl (e_len rfl (by kernel_rfl)) trivial ?_
  refine p_step rfl (e_lt rfl rfl) trivial ?_
  refine p_end (hK15 _ ?_); clear hK15 K15
  refine pwp_seq_cond rfl fun K16 hK16 => ⟨fun hb17 => ?_, fun hb17 => ?_⟩
  ·have hb17R := hb17; try simp only [z1, z2, z3, z4, z5, z6, ne_eq, z7, z8, z9, z10, z11, z12] at hb17
   obtain ⟨x, hx, hd, ht⟩ := get_lt (xs := ms) (i := k) (by omega)
   rw [hd] at hinv
   have hxp := hm x (List.mem_of_getElem? hx)
   refine pwp_skip ?_
   refine seq_norm (hK16 _ ?_); clear hK16 K16
   refine pwp_seq_block fun K18 hK18 => ?_
   refine pwp_seq_plain rfl fun K19 hK19 => ?_
   refine p_step rfl (e_move (v := _) rfl) trivial ?_
   refine p_step rfl (e_move (v := .lit _ _ _) rfl) trivial ?_
   refine p_step rfl (e_move (v := .sc _) rfl) trivial ?_
   refine p_step rfl (e_ixa rfl rfl (by kernel_rfl) (by kernel_rfl) (by simp only [List.length_map]; omega)) trivial ?_
   refine p_step rfl (e_loadA (n := 6) rfl (by kernel_rfl) (by kernel_rfl) (by kernel_rfl) (by simp only [List.length_map]; omega) (by decide) (by first | exact agg_map hx rfl)) trivial ?_
   refine p_call rfl (.cons (LitV.inn hlv) (.cons (inn_agg (Movement.pure _)) .nil)) (refMove _ _ hyl (fun y hy => by have := (stockE_ok hye).2 y hy; omega) hxp) ?_
   refine p_step rfl (e_move (v := .tup _) rfl) trivial ?_
   refine p_step rfl (e_ext (v := .lit _ _ _) rfl (by simp) rfl) trivial ?_
   refine p_step rfl (e_ext (v := .sc _) rfl (by simp) rfl) trivial ?_
   refine p_step rfl (e_assign (v := .lit _ _ _) rfl) trivial ?_
   refine p_step rfl (e_assign (v := .sc _) rfl) trivial ?_
   refine p_end (hK19 _ ?_); clear hK19 K19
   refine pwp_seq_plain rfl fun K20 hK20 => ?_
   refine p_step rfl (e_move (v := .sc _) rfl) trivial ?_
   refine p_step rfl (e_ne rfl rfl) trivial ?_
   refine p_end (hK20 _ ?_); clear hK20 K20
   refine pwp_cond rfl (fun hb21 => ?_) (fun hb21 => ?_)
   ·have hb21R := hb21; try simp only [z1, z2, z3, z4, z5, z6, ne_eq, z7, z8, z9, z10, z11, z12] at hb21
    refine pwp_seq_plain rfl fun K22 hK22 => ?_
    refine p_step rfl (e_move (v := .sc _) rfl) trivial ?_
    refine p_step rfl (e_move (v := .sc _) rfl) trivial ?_
    refine p_step rfl (e_assign (v := .nil) rfl) trivial ?_
    refine p_step rfl (e_assign (v := .sc _) rfl) trivial ?_
    refine p_step rfl (e_assign (v := .sc _) rfl) trivial ?_
    refine p_end (hK22 _ ?_); clear hK22 K22
    refine pwp_ret ?_
    refine ret_block ?_
    refine ret_seq ?_
    refine ret_loop ?_
    refine ret_block ?_
    refine ret_seq ?_
    refine end3 (v := .nil) (w := .sc _) (x := .sc _) rfl rfl rfl ?_
    exact tr_out0 (rms_1 (by omega) (gm_1 hinv (by assumption)))
   have hb21R := hb21; try simp only [z1, z2, z3, z4, z5, z6, ne_eq, z7, z8, z9, z10, z11, z12] at hb21
   refine pwp_skip ?_
   refine block_norm ?_
   refine seq_norm (hK18 _ ?_); clear hK18 K18
   refine pwp_plain rfl fun K23 hK23 => ?_
   refine p_step rfl (e_move (v := .sc _) rfl) trivial ?_
   refine p_step rfl (e_add rfl rfl (by omega)) trivial ?_
   refine p_step rfl (e_assign (v := .sc _) rfl) trivial ?_
   refine p_end (hK23 _ ?_); clear hK23 K23
   exact loop_again ((k + 1, (refMoveR ys x).2, _)) (by show _ < _; simp only; omega) ⟨rfl, trivial⟩ ⟨rfl, rfl, trivial⟩ (by exact ⟨by show _ + 1 ≤ _; omega, by exact LitV.lit, by exact fun _ => .inr rfl, by (rw [← move_ref hye]; exact Nat.le_trans (moveR_len _ _) (by decide)), by (rw [← move_ref hye]; exact moveR_part hys hxp), by exact gm_2 hinv (by assumption), by (rw [← move_ref hye]; exact moveR_ok)⟩)
  have hb17R := hb17; try simp only [z1, z2, z3, z4, z5, z6, ne_eq, z7, z8, z9, z10, z11, z12] at hb17
  obtain rfl : k = ms.length := by omega
  rw [List.drop_length] at hinv; simp only [goMv] at hinv
  refine pwp_exit ?_
  refine exit_seq ?_
  clear hK16 K16
  refine exit_loop ?_
  refine exit_here ?_
  refine seq_norm (hK9 _ ?_); clear hK9 K9
  refine pwp_seq_plain rfl fun K24 hK24 => ?_
  refine p_step rfl (e_move (v := _) rfl) trivial ?_
  refine p_step rfl (e_move (v := .lit _ _ _) rfl) trivial ?_
  refine p_step rfl (e_len rfl (by kernel_rfl)) trivial ?_
  refine p_step rfl (e_assign (v := _) rfl) trivial ?_
  refine p_step rfl (e_assign (v := .sc _) rfl) trivial ?_
  refine p_step rfl (e_assign (v := .sc _) rfl) trivial ?_
  refine p_end (hK24 _ ?_); clear hK24 K24
  refine pwp_ret ?_
  refine end3 (v := _) (w := .sc _) (x := .sc _) rfl rfl rfl ?_
  exact tr_out (rms_1 (by omega) (by rw [hinv, List.length_map])) (hlf (by omega))

theorem fr4 : (inFrame Tryd.f4.ntmps (Tryd.f4.body.getD .skip) && Tryd.f4.results.toList.all (resScope Tryd.f4.ntmps)) = true := by kernel_rfl
theorem hrows (xs : List Stock) (ms : List Movement) (hlx : xs.length ≤ 9223372036854775807) (hlm : ms.length ≤ 9223372036854775807) : PCalls Tryd.prog 4 [.lit true 4 (xs.map Stock.enc), .lit true 6 (ms.map Movement.enc)] (.bool true) := by
  refine PCalls.of_code Tryd.func4 rfl rfl (by kernel_rfl) mixed fr4 (by show _ ≤ 79; simp) (.sc _) ?_
  refine pwp_seq_plain rfl fun K1 hK1 => ?_
  refine p_step rfl (e_assign (v := .sc _) rfl) trivial ?_
  refine p_end (hK1 _ ?_); clear hK1 K1
  refine pwp_seq_seq ?_
  refine pwp_seq_plain rfl fun K2 hK2 => ?_
  refine p_call rfl .nil (awake) ?_
  refine p_step rfl (e_not rfl) trivial ?_
  refine p_end (hK2 _ ?_); clear hK2 K2
  refine pwp_seq_cond (t := false) rfl fun K3 hK3 => ⟨nofun, fun _ => ?_⟩
  refine pwp_skip ?_
  refine seq_norm (hK3 _ ?_); clear hK3 K3
  refine pwp_seq_seq ?_
  refine pwp_seq_gops rfl fun K4 hK4 => ?_
  refine g_begin ?_
  refine g_step rfl rfl rfl rfl (e_move (v := .lit _ _ _) rfl) trivial ?_
  refine g_call rfl rfl rfl rfl (.cons inn_lit .nil) (ShortS _ hlx) ?_
  refine g_step rfl rfl rfl rfl (e_not rfl) trivial ?_
  refine g_step rfl rfl rfl rfl (e_move (v := .sc _) rfl) trivial ?_
  refine g_cases (fun hb5 => ?_) (fun hb5 => ?_)
  ·have hb5R := hb5; simp only [z1, z2, z3, z4, z5, z6, ne_eq, z7, z8, z9, z10, z11, z12] at hb5
   refine g_skip rfl rfl rfl ?_
   refine g_skip rfl rfl rfl ?_
   refine g_skip rfl rfl rfl ?_
   refine g_step rfl rfl rfl rfl (e_pickT (v := .sc _) rfl rfl) trivial ?_
   refine g_end (ds := [19, 20, 21]) rfl rfl (hK4 _ ?_); clear hK4 K4
   refine pwp_seq_cond (t := true) rfl fun K6 hK6 => ⟨fun _ => ?_, nofun⟩
   refine pwp_seq_plain rfl fun K7 hK7 => ?_
   refine p_step rfl (e_assign (v := .sc _) rfl) trivial ?_
   refine p_end (hK7 _ ?_); clear hK7 K7
   refine pwp_ret ?_
   refine ret_seq ?_
   refine end1 (v := .sc _) rfl ?_
   exact out_b rfl
  have hb5R := hb5; simp only [z1, z2, z3, z4, z5, z6, ne_eq, z7, z8, z9, z10, z11, z12] at hb5; have hsh := shortB_iff hb5
  refine g_step rfl rfl rfl rfl (e_move (v := .lit _ _ _) rfl) trivial ?_
  refine g_step rfl rfl rfl rfl (e_len rfl (by kernel_rfl)) trivial ?_
  refine g_step rfl rfl rfl rfl (e_gt rfl rfl) trivial ?_
  refine g_step rfl rfl rfl rfl (e_pickF (v := .sc _) rfl rfl) trivial ?_
  refine g_end (ds := [19, 20, 21]) rfl rfl (hK4 _ ?_); clear hK4 K4
  refine pwp_seq_cond rfl fun K8 hK8 => ⟨fun hb9 => ?_, fun hb9 => ?_⟩
  ·have hb9R := hb9; simp only [z1, z2, z3, z4, z5, z6, ne_eq, z7, z8, z9, z10, z11, z12] at hb9
   refine pwp_seq_plain rfl fun K10 hK10 => ?_
   refine p_step rfl (e_assign (v := .sc _) rfl) trivial ?_
   refine p_end (hK10 _ ?_); clear hK10 K10
   refine pwp_ret ?_
   refine ret_seq ?_
   refine end1 (v := .sc _) rfl ?_
   exact out_b rfl
  have hb9R := hb9; simp only [z1, z2, z3, z4, z5, z6, ne_eq, z7, z8, z9, z10, z11, z12] at hb9
  refine pwp_skip ?_
  refine seq_norm (hK8 _ ?_); clear hK8 K8
  refine pwp_seq_seq ?_
  refine pwp_seq_plain rfl fun K11 hK11 => ?_
  refine p_step rfl (e_assign (v := .sc _) rfl) trivial ?_
  refine p_end (hK11 _ ?_); clear hK11 K11
  refine pwp_seq_block fun K12 hK12 => ?_
  refine pwp_loopR (α := Nat) [0, 1] (fun (k : Nat) => [(5, .int (k))]) (fun (k : Nat) (h : Heap) (_ : Nat → Nat) => ((k) ≤ ms.length) ∧ (∀ m ∈ ms.take (k), m.part.size ≤ 30)) (fun (k : Nat) => ms.length - (k)) (0) (by exact ⟨rfl, trivial⟩) (by exact ⟨by exact Nat.zero_le _, by simp⟩) fun k r13 h14 c15 hj16 => ?_
  obtain ⟨hk, hq⟩ := hj16
  try dsimp only at hk
  try dsimp only at hq
  show pwp _ _ (loopQ _ _ _) ⟨sets (mix _ _ _) [(5, .int k)], _, _⟩
  refine pwp_seq_seq ?_
  refine pwp_seq_plain rfl fun K17 hK17 => ?_
  refine p_step rfl (e_move (v := .sc _) rfl) trivial ?_
  refine p_step rfl (e_move (v := .lit _ _ _) rfl) trivial ?_
  refine p_step rfl (e_len rfl (by kernel_rfl)) trivial ?_
  refine p_step rfl (e_lt rfl rfl) trivial ?_
  refine p_end (hK17 _ ?_); clear hK17 K17
  refine pwp_seq_cond rfl fun K18 hK18 => ⟨fun hb19 => ?_, fun hb19 => ?_⟩
  ·have hb19R := hb19; simp only [z1, z2, z3, z4, z5, z6, ne_eq, z7, z8, z9, z10, z11, z12] at hb19
   obtain ⟨x, hx, hd, ht⟩ := get_lt (xs := ms) (i := k) (by omega)
   refine pwp_skip ?_
   refine seq_norm (hK18 _ ?_); clear hK18 K18
   refine pwp_seq_block fun K20 hK20 => ?_
   refine pwp_seq_plain rfl fun K21 hK21 => ?_
   refine p_step rfl (e_move (v := .lit _ _ _) rfl) trivial ?_
   refine p_step rfl (e_move (v := .sc _) rfl) trivial ?_
   refine p_step rfl (e_ixa rfl rfl (by kernel_rfl) (by kernel_rfl) (by simp only [List.length_map]; omega)) trivial ?_
   refine p_step rfl (e_fa (pl := [(0, 1, false), (1, 1, false), (2, 1, false), (3, 1, false), (4, 1, false), (5, 1, false)]) rfl (by kernel_rfl) (by kernel_rfl) (by decide) rfl) trivial ?_
   refine p_step rfl (e_load (v := .sc _) rfl (by kernel_rfl) (by kernel_rfl) (by kernel_rfl) (by simp only [List.length_map]; omega) (by decide) ((cell_map hx _).trans rfl)) trivial ?_
   refine p_step rfl (e_lenS rfl (by kernel_rfl)) trivial ?_
   refine p_step rfl (e_gt rfl rfl) trivial ?_
   refine p_end (hK21 _ ?_); clear hK21 K21
   refine pwp_cond rfl (fun hb22 => ?_) (fun hb22 => ?_)
   ·have hb22R := hb22; simp only [z1, z2, z3, z4, z5, z6, ne_eq, z7, z8, z9, z10, z11, z12] at hb22
    refine pwp_seq_plain rfl fun K23 hK23 => ?_
    refine p_step rfl (e_assign (v := .sc _) rfl) trivial ?_
    refine p_end (hK23 _ ?_); clear hK23 K23
    refine pwp_ret ?_
    refine ret_block ?_
    refine ret_seq ?_
    refine ret_loop ?_
    refine ret_block ?_
    refine ret_seq ?_
    refine end1 (v := .sc _) rfl ?_
    exact out_b rfl
   have hb22R := hb22; simp only [z1, z2, z3, z4, z5, z6, ne_eq, z7, z8, z9, z10, z11, z12] at hb22
   refine pwp_skip ?_
   refine block_norm ?_
   refine seq_norm (hK20 _ ?_); clear hK20 K20
   refine pwp_plain rfl fun K24 hK24 => ?_
   refine p_step rfl (e_move (v := .sc _) rfl) trivial ?_
   refine p_step rfl (e_add rfl rfl (by omega)) trivial ?_
   refine p_step rfl (e_assign (v := .sc _) rfl) trivial ?_
   refine p_end (hK24 _ ?_); clear hK24 K24
   exact loop_again (k + 1) (by show _ < _; omega) ⟨rfl, rfl, trivial⟩ ⟨rfl, trivial⟩ (by exact ⟨by show _ + 1 ≤ _; omega, by exact all_snocS ht hq (by omega)⟩)
  have hb19R := hb19; simp only [z1, z2, z3, z4, z5, z6, ne_eq, z7, z8, z9, z10, z11, z12] at hb19
  obtain rfl : k = ms.length := by omega
  rw [List.take_length] at hq
  have hms := hq
  refine pwp_exit ?_
  refine exit_seq ?_
  clear hK18 K18
  refine exit_loop ?_
  refine exit_here ?_
  refine seq_norm (hK12 _ ?_); clear hK12 K12
  refine pwp_seq_plain rfl fun K25 hK25 => ?_
  refine p_step rfl (e_move (v := .lit _ _ _) rfl) trivial ?_
  refine p_step rfl (e_move (v := .lit _ _ _) rfl) trivial ?_
  refine p_call rfl (.cons inn_lit (.cons inn_lit .nil)) (MovesS _ _ hsh.2.1 hsh.2.2 (by omega) hms) ?_
  refine p_step rfl (e_move (v := .tup _) rfl) trivial ?_
  refine p_step rfl (e_ext (v := .lit _ _ _) rfl (by simp) rfl) trivial ?_
  refine p_step rfl (e_ext (v := .sc _) rfl (by simp) rfl) trivial ?_
  refine p_step rfl (e_ext (v := .sc _) rfl (by simp) rfl) trivial ?_
  refine p_step rfl (e_assign (v := .lit _ _ _) rfl) trivial ?_
  refine p_step rfl (e_assign (v := .sc _) rfl) trivial ?_
  refine p_step rfl (e_assign (v := .sc _) rfl) trivial ?_
  refine p_end (hK25 _ ?_); clear hK25 K25
  refine pwp_seq_seq ?_
  refine pwp_seq_plain rfl fun K26 hK26 => ?_
  refine p_step rfl (e_move (v := .lit _ _ _) rfl) trivial ?_
  refine p_call rfl (.cons inn_lit .nil) (refCheckS _ hsh.2.1 hsh.2.2) ?_
  refine p_step rfl (e_assign (v := .sc _) rfl) trivial ?_
  refine p_end (hK26 _ ?_); clear hK26 K26
  refine pwp_seq_seq ?_
  refine pwp_seq_plain rfl fun K27 hK27 => ?_
  refine p_step rfl (e_move (v := .sc _) rfl) trivial ?_
  refine p_step rfl (e_ne rfl rfl) trivial ?_
  refine p_end (hK27 _ ?_); clear hK27 K27
  refine pwp_seq_cond rfl fun K28 hK28 => ⟨fun hb29 => ?_, fun hb29 => ?_⟩
  ·have hb29R := hb29; simp only [z1, z2, z3, z4, z5, z6, ne_eq, z7, z8, z9, z10, z11, z12] at hb29; have hm1 := moves_err (ms := ms) hb29
   refine pwp_seq_gops rfl fun K30 hK30 => ?_
   refine g_begin ?_
   refine g_step rfl rfl rfl rfl (e_move (v := .sc _) rfl) trivial ?_
   refine g_step rfl rfl rfl rfl (e_move (v := .sc _) rfl) trivial ?_
   refine g_step rfl rfl rfl rfl (e_eq rfl rfl) trivial ?_
   refine g_step rfl rfl rfl rfl (e_move (v := .sc _) rfl) trivial ?_
   refine g_cases (fun hb31 => ?_) (fun hb31 => ?_)
   ·have hb31R := hb31; simp only [z1, z2, z3, z4, z5, z6, ne_eq, z7, z8, z9, z10, z11, z12] at hb31
    refine g_step rfl rfl rfl rfl (e_move (v := .lit _ _ _) rfl) trivial ?_
    refine g_step rfl rfl rfl rfl (e_len rfl (by kernel_rfl)) trivial ?_
    refine g_step rfl rfl rfl rfl (e_eq rfl rfl) trivial ?_
    refine g_step rfl rfl rfl rfl (e_pickT (v := .sc _) rfl rfl) trivial ?_
    refine g_step rfl rfl rfl rfl (e_move (v := .sc _) rfl) trivial ?_
    refine g_cases (fun hb32 => ?_) (fun hb32 => ?_)
    ·have hb32R := hb32; simp only [z1, z2, z3, z4, z5, z6, ne_eq, z7, z8, z9, z10, z11, z12] at hb32
     refine g_step rfl rfl rfl rfl (e_move (v := .sc _) rfl) trivial ?_
     refine g_step rfl rfl rfl rfl (e_eq rfl rfl) trivial ?_
     refine g_step rfl rfl rfl rfl (e_pickT (v := .sc _) rfl rfl) trivial ?_
     refine g_step rfl rfl rfl rfl (e_assign (v := .sc _) rfl) trivial ?_
     refine g_end (ds := [51, 52, 53, 56, 57]) rfl rfl (hK30 _ ?_); clear hK30 K30
     refine pwp_ret ?_
     refine ret_seq ?_
     refine end1 (v := .sc _) rfl ?_
     (refine out_b ?_; simp [hm1]; done)
    have hb32R := hb32; simp only [z1, z2, z3, z4, z5, z6, ne_eq, z7, z8, z9, z10, z11, z12] at hb32
    refine g_skip rfl rfl rfl ?_
    refine g_skip rfl rfl rfl ?_
    refine g_step rfl rfl rfl rfl (e_pickF (v := .sc _) rfl rfl) trivial ?_
    refine g_step rfl rfl rfl rfl (e_assign (v := .sc _) rfl) trivial ?_
    refine g_end (ds := [51, 52, 53, 56, 57]) rfl rfl (hK30 _ ?_); clear hK30 K30
    refine pwp_ret ?_
    refine ret_seq ?_
    refine end1 (v := .sc _) rfl ?_
    (exfalso; simp_all; done)
   have hb31R := hb31; simp only [z1, z2, z3, z4, z5, z6, ne_eq, z7, z8, z9, z10, z11, z12] at hb31
   refine g_skip rfl rfl rfl ?_
   refine g_skip rfl rfl rfl ?_
   refine g_skip rfl rfl rfl ?_
   refine g_step rfl rfl rfl rfl (e_pickF (v := .sc _) rfl rfl) trivial ?_
   refine g_step rfl rfl rfl rfl (e_move (v := .sc _) rfl) trivial ?_
   refine g_skip rfl rfl rfl ?_
   refine g_skip rfl rfl rfl ?_
   refine g_step rfl rfl rfl rfl (e_pickF (v := .sc _) rfl rfl) trivial ?_
   refine g_step rfl rfl rfl rfl (e_assign (v := .sc _) rfl) trivial ?_
   refine g_end (ds := [51, 52, 53, 56, 57]) rfl rfl (hK30 _ ?_); clear hK30 K30
   refine pwp_ret ?_
   refine ret_seq ?_
   refine end1 (v := .sc _) rfl ?_
   (exfalso; simp_all; done)
  have hb29R := hb29; simp only [z1, z2, z3, z4, z5, z6, ne_eq, z7, z8, z9, z10, z11, z12] at hb29; have hm0 := moves_ref (ms := ms) hb29
  refine pwp_skip ?_
  refine seq_norm (hK28 _ ?_); clear hK28 K28
  refine pwp_seq_plain rfl fun K33 hK33 => ?_
  refine p_step rfl (e_move (v := .lit _ _ _) rfl) trivial ?_
  refine p_step rfl (e_move (v := .lit _ _ _) rfl) trivial ?_
  refine p_call rfl (.cons inn_lit (.cons inn_lit .nil)) (refMoves _ _ hsh.2.1 hsh.2.2 (by omega) hms (by assumption)) ?_
  refine p_step rfl (e_move (v := .tup _) rfl) trivial ?_
  refine p_step rfl (e_ext (v := .lit _ _ _) rfl (by simp) rfl) trivial ?_
  refine p_step rfl (e_ext (v := .sc _) rfl (by simp) rfl) trivial ?_
  refine p_step rfl (e_ext (v := .sc _) rfl (by simp) rfl) trivial ?_
  refine p_step rfl (e_assign (v := .lit _ _ _) rfl) trivial ?_
  refine p_step rfl (e_assign (v := .sc _) rfl) trivial ?_
  refine p_step rfl (e_assign (v := .sc _) rfl) trivial ?_
  refine p_end (hK33 _ ?_); clear hK33 K33
  refine pwp_seq_gops rfl fun K34 hK34 => ?_
  refine g_begin ?_
  refine g_step rfl rfl rfl rfl (e_move (v := .sc _) rfl) trivial ?_
  refine g_step rfl rfl rfl rfl (e_move (v := .sc _) rfl) trivial ?_
  refine g_step rfl rfl rfl rfl (e_eq rfl rfl) trivial ?_
  refine g_step rfl rfl rfl rfl (e_move (v := .sc _) rfl) trivial ?_
  refine g_cases (fun hb35 => ?_) (fun hb35 => ?_)
  ·have hb35R := hb35; simp only [z1, z2, z3, z4, z5, z6, ne_eq, z7, z8, z9, z10, z11, z12] at hb35
   refine g_step rfl rfl rfl rfl (e_move (v := .lit _ _ _) rfl) trivial ?_
   refine g_step rfl rfl rfl rfl (e_move (v := .lit _ _ _) rfl) trivial ?_
   refine g_call rfl rfl rfl rfl (.cons inn_lit (.cons inn_lit .nil)) (SameStock _ _ (Nat.le_trans (movesR_len xs ms) (by decide))) ?_
   refine g_step rfl rfl rfl rfl (e_pickT (v := .sc _) rfl rfl) trivial ?_
   refine g_step rfl rfl rfl rfl (e_move (v := .sc _) rfl) trivial ?_
   refine g_cases (fun hb36 => ?_) (fun hb36 => ?_)
   ·have hb36R := hb36; simp only [z1, z2, z3, z4, z5, z6, ne_eq, z7, z8, z9, z10, z11, z12] at hb36
    refine g_step rfl rfl rfl rfl (e_move (v := .sc _) rfl) trivial ?_
    refine g_step rfl rfl rfl rfl (e_move (v := .sc _) rfl) trivial ?_
    refine g_step rfl rfl rfl rfl (e_eq rfl rfl) trivial ?_
    refine g_step rfl rfl rfl rfl (e_pickT (v := .sc _) rfl rfl) trivial ?_
    refine g_step rfl rfl rfl rfl (e_assign (v := .sc _) rfl) trivial ?_
    refine g_end (ds := [70, 71, 72, 75, 76, 77]) rfl rfl (hK34 _ ?_); clear hK34 K34
    refine pwp_ret ?_
    refine end1 (v := .sc _) rfl ?_
    (refine out_b ?_; simp [hm0]; done)
   have hb36R := hb36; simp only [z1, z2, z3, z4, z5, z6, ne_eq, z7, z8, z9, z10, z11, z12] at hb36
   refine g_skip rfl rfl rfl ?_
   refine g_skip rfl rfl rfl ?_
   refine g_skip rfl rfl rfl ?_
   refine g_step rfl rfl rfl rfl (e_pickF (v := .sc _) rfl rfl) trivial ?_
   refine g_step rfl rfl rfl rfl (e_assign (v := .sc _) rfl) trivial ?_
   refine g_end (ds := [70, 71, 72, 75, 76, 77]) rfl rfl (hK34 _ ?_); clear hK34 K34
   refine pwp_ret ?_
   refine end1 (v := .sc _) rfl ?_
   (exfalso; simp_all; done)
  have hb35R := hb35; simp only [z1, z2, z3, z4, z5, z6, ne_eq, z7, z8, z9, z10, z11, z12] at hb35
  refine g_skip rfl rfl rfl ?_
  refine g_skip rfl rfl rfl ?_
  refine g_nocall rfl rfl rfl ?_
  refine g_step rfl rfl rfl rfl (e_pickF (v := .sc _) rfl rfl) trivial ?_
  refine g_step rfl rfl rfl rfl (e_move (v := .sc _) rfl) trivial ?_
  refine g_skip rfl rfl rfl ?_
  refine g_skip rfl rfl rfl ?_
  refine g_skip rfl rfl rfl ?_
  refine g_step rfl rfl rfl rfl (e_pickF (v := .sc _) rfl rfl) trivial ?_
  refine g_step rfl rfl rfl rfl (e_assign (v := .sc _) rfl) trivial ?_
  refine g_end (ds := [70, 71, 72, 75, 76, 77]) rfl rfl (hK34 _ ?_); clear hK34 K34
  refine pwp_ret ?_
  refine end1 (v := .sc _) rfl ?_
  (exfalso; simp_all; done)

end Go.Proofs.YtigdmkhdmbbfiaaDoor

/- The law of parts that are conserved. No conditions. -/
set_option linter.unusedSimpArgs false
set_option linter.unusedVariables false
set_option maxRecDepth 100000
set_option maxHeartbeats 8000000
namespace Go.Proofs.YtigdmkhdmbbfiaaDoor
open Go Go.Pv

/-! ### Parts are conserved -/
theorem setG_filter : ∀ (l acc : List Stock), (setG acc l).1 = 0 → (setG acc l).2 = acc ++ l.filter fun y => decide (y.count ≠ 0)
  | [], acc, _ => by simp [setG]
  | y :: l, acc, h => by
    unfold setG at h ⊢
    by_cases h1 : 1000000 < y.count
    · rw [if_pos h1] at h; cases h
    · rw [if_neg h1] at h ⊢
      by_cases h2 : y.count ≠ 0
      · rw [if_pos h2] at h ⊢
        rw [setG_filter l _ h, List.filter_cons_of_pos (by simpa using h2), List.append_assoc]; rfl
      · rw [if_neg h2] at h ⊢
        rw [setG_filter l _ h, List.filter_cons_of_neg (by simpa using h2)]
theorem settS_filter {l : List Stock} (h : (settS l).1 = 0) : (settS l).2 = l.filter fun y => decide (y.count ≠ 0) := by
  unfold settS at h ⊢
  dsimp only at h ⊢
  by_cases h1 : (setG [] l).1 = 0
  · rw [if_pos h1] at h ⊢
    by_cases h2 : 200 < (setG [] l).2.length
    · rw [if_pos h2] at h; cases h
    · rw [if_neg h2]; rw [setG_filter l [] h1]; rfl
  · rw [if_neg h1] at h; exact absurd h h1
theorem cntS_filter (k : Kx) : ∀ l : List Stock, cntS k (l.filter fun y => decide (y.count ≠ 0)) = cntS k l
  | [] => rfl
  | y :: l => by
    by_cases h : y.count ≠ 0
    · rw [List.filter_cons_of_pos (by simpa using h)]; simp only [cntS]; rw [cntS_filter k l]
    · rw [List.filter_cons_of_neg (by simpa using h), cntS_filter k l]
      simp only [cntS]
      have : y.count = 0 := by omega
      rw [this]; split <;> omega
theorem move_parts {xs : List Stock} {m : Movement} (h : stockE xs = 0) (h2 : (moveR xs m).1 = 0) : mvE m = 0 ∧ ¬ lack xs m ∧ moveR xs m = settS (putF [] (xs ++ (extF m ++ extT m))) := by
  have hr := move_ref (m := m) h
  by_cases h3 : mvE m = 0
  · by_cases h4 : lack xs m
    · rw [hr, refMoveR, if_neg (by simpa using h3), if_pos h4] at h2; cases h2
    · exact ⟨h3, h4, by rw [hr, refMoveR, if_neg (by simpa using h3), if_neg h4]⟩
  · rw [hr, refMoveR, if_pos h3] at h2; exact absurd h2 h3
theorem getS_mem {k : Kx} : ∀ {m : Sto}, 0 < getS k m → k ∈ m.map (·.1)
  | [], h => by simp [getS, aGet] at h
  | e :: m, h => by
    by_cases he : k = e.1
    · rw [he]; simp
    · have : getS k (e :: m) = getS k m := by
        unfold getS
        rw [aGet, if_neg he]
      rw [this] at h
      exact List.mem_cons_of_mem _ (getS_mem h)
theorem cnt_move {xs : List Stock} {m : Movement} (h : stockE xs = 0) (h2 : (moveR xs m).1 = 0) (k : Kx) : cntS k (moveR xs m).2 = cntS k xs + cntS k (extF m ++ extT m) := by
  obtain ⟨h3, h4, h5⟩ := move_parts h h2
  rw [h5] at h2 ⊢
  rw [settS_filter h2, cntS_filter, putF_cnt, cntS_app]; simp [cntS]
theorem cnt_F (m : Movement) (k : Kx) : cntS k (extF m) = if m.fro ≠ -1 ∧ (⟨m.part, m.fro, m.before⟩ : Kx) = k then 0 - m.count else 0 := by
  unfold extF
  by_cases h : m.fro ≠ -1
  · rw [if_pos h]
    by_cases h2 : (⟨m.part, m.fro, m.before⟩ : Kx) = k
    · rw [if_pos ⟨h, h2⟩, cntS, if_pos (show keyS (⟨m.part, m.fro, m.before, 0 - m.count⟩ : Stock) = k from h2)]; simp [cntS]
    · rw [if_neg (fun h3 => h2 h3.2), cntS, if_neg (show ¬ keyS (⟨m.part, m.fro, m.before, 0 - m.count⟩ : Stock) = k from h2)]; simp [cntS]
  · rw [if_neg h, if_neg (fun h3 => h h3.1)]; rfl
theorem cnt_T (m : Movement) (k : Kx) : cntS k (extT m) = if m.til ≠ -1 ∧ (⟨m.part, m.til, m.after⟩ : Kx) = k then m.count else 0 := by
  unfold extT
  by_cases h : m.til ≠ -1
  · rw [if_pos h]
    by_cases h2 : (⟨m.part, m.til, m.after⟩ : Kx) = k
    · rw [if_pos ⟨h, h2⟩, cntS, if_pos (show keyS (⟨m.part, m.til, m.after, m.count⟩ : Stock) = k from h2)]; simp [cntS]
    · rw [if_neg (fun h3 => h2 h3.2), cntS, if_neg (show ¬ keyS (⟨m.part, m.til, m.after, m.count⟩ : Stock) = k from h2)]; simp [cntS]
  · rw [if_neg h, if_neg (fun h3 => h h3.1)]; rfl
end Go.Proofs.YtigdmkhdmbbfiaaDoor
