import Derived.Test.YtigdmkhdmbbfiaaDoorDmvA
import Derived.Test.YtigdmkhdmbbfiaaDoorAwake
/- Movements one after the other; the law of rows. No conditions. -/
set_option linter.unusedSimpArgs false
set_option linter.unusedVariables false
set_option maxRecDepth 100000
set_option maxHeartbeats 8000000
namespace Go.Proofs.YtigdmkhdmbbfiaaDoor
open Go Go.Pv

/-! ### What a stock behind a movement is -/
theorem lstG_mem {m : Sto} : ∀ (ks : List Kx) (acc : List Stock), (lstG m acc ks).1 = 0 → ∀ e ∈ (lstG m acc ks).2, e ∈ acc ∨ ∃ k ∈ ks, e = ⟨k.part, k.place, k.state, getS k m⟩ ∧ 0 < getS k m ∧ getS k m ≤ 1000000
  | [], acc, _, e, he => .inl he
  | k :: ks, acc, h, e, he => by
    unfold lstG at h he
    by_cases h1 : 1000000 < getS k m
    · rw [if_pos h1] at h; cases h
    · rw [if_neg h1] at h he
      rcases lstG_mem ks _ h e he with h2 | ⟨k', h2, h3⟩
      · by_cases h4 : 0 < getS k m
        · rw [if_pos h4] at h2
          rcases List.mem_append.1 h2 with h5 | h5
          · exact .inl h5
          · simp only [List.mem_singleton] at h5
            exact .inr ⟨k, List.mem_cons_self, h5, h4, by omega⟩
        · rw [if_neg h4] at h2; exact .inl h2
      · exact .inr ⟨k', List.mem_cons_of_mem _ h2, h3⟩
theorem keysS_mem {m : Sto} {k : Kx} : k ∈ keysS m ↔ k ∈ m.map (·.1) := by
  unfold keysS
  constructor
  · intro h
    obtain ⟨y, hy, rfl⟩ := List.mem_map.1 h
    rw [(sortSh_perm _).mem_iff] at hy
    obtain ⟨e, he, rfl⟩ := List.mem_map.1 hy
    exact List.mem_map.2 ⟨e, he, rfl⟩
  · intro h
    obtain ⟨e, he, rfl⟩ := List.mem_map.1 h
    refine List.mem_map.2 ⟨kSh e.1, ?_, rfl⟩
    rw [(sortSh_perm _).mem_iff]
    exact List.mem_map.2 ⟨e, he, rfl⟩
theorem listS_cases (m : Sto) : ((listS m).1 = 0 ∧ (lstG m [] (keysS m)).1 = 0 ∧ listS m = lstG m [] (keysS m) ∧ (listS m).2.length ≤ 200) ∨ (listS m).1 ≠ 0 ∧ (listS m).2 = [] := by
  unfold listS
  dsimp only
  by_cases h : (lstG m [] (keysS m)).1 = 0
  · rw [if_pos h]
    by_cases h2 : 200 < (lstG m [] (keysS m)).2.length
    · rw [if_pos h2]; exact .inr ⟨by decide, rfl⟩
    · rw [if_neg h2]; exact .inl ⟨h, h, rfl, by omega⟩
  · rw [if_neg h]; exact .inr ⟨h, rfl⟩
theorem listS_mem {m : Sto} : ∀ e ∈ (listS m).2, keyS e ∈ m.map (·.1) ∧ 0 < e.count ∧ e.count ≤ 1000000 := fun e he => by
  rcases listS_cases m with ⟨_, h2, h3, _⟩ | ⟨_, h2⟩
  · rw [h3] at he
    rcases lstG_mem _ _ h2 e he with h4 | ⟨k, h4, rfl, h5⟩
    · simp at h4
    · exact ⟨keysS_mem.1 h4, h5⟩
  · rw [h2] at he; simp at he
theorem moveR_mem {xs : List Stock} {m : Movement} : ∀ e ∈ (moveR xs m).2, (stockE xs = 0 ∧ mvE m = 0) ∧ (∃ x ∈ xs ++ (extF m ++ extT m), keyS e = keyS x) ∧ 0 < e.count ∧ e.count ≤ 1000000 := fun e he => by
  unfold moveR at he
  by_cases h1 : stockE xs = 0
  · rw [if_neg (by simpa using h1)] at he
    by_cases h2 : mvE m = 0
    · rw [if_neg (by simpa using h2)] at he
      by_cases h3 : lack xs m
      · rw [if_pos h3] at he; simp at he
      · rw [if_neg h3] at he
        obtain ⟨h4, h5⟩ := listS_mem e he
        rw [sumS_keys] at h4
        rcases h4 with h4 | h4
        · simp at h4
        · obtain ⟨x, hx, hk⟩ := List.mem_map.1 h4
          exact ⟨⟨h1, h2⟩, ⟨x, hx, hk.symm⟩, h5⟩
    · rw [if_pos h2] at he; simp at he
  · rw [if_pos h1] at he; simp at he
theorem keyS_part {x y : Stock} (h : keyS x = keyS y) : x.part = y.part ∧ x.place = y.place ∧ x.state = y.state := by
  unfold keyS at h; simpa using h
theorem moveR_part {xs : List Stock} {m : Movement} (hs : ∀ x ∈ xs, x.part.size ≤ 30) (hm : m.part.size ≤ 30) : ∀ e ∈ (moveR xs m).2, e.part.size ≤ 30 := fun e he => by
  obtain ⟨_, ⟨x, hx, hk⟩, _⟩ := moveR_mem e he
  rw [(keyS_part hk).1]
  rcases List.mem_append.1 hx with hx | hx
  · exact hs x hx
  · exact ext_size hm x hx
theorem goS_name : ∀ {l : List Stock}, goS l = 0 → ∀ x ∈ l, isNm x.part = true
  | [], _, x, hx => by simp at hx
  | y :: l, h, x, hx => by
    unfold goS at h
    split at h
    · cases h
    · rename_i h1
      split at h
      · cases h
      · rcases List.mem_cons.1 hx with rfl | hx
        · simpa using h1
        · exact goS_name h x hx
theorem goS_of : ∀ {l : List Stock}, (∀ x ∈ l, isNm x.part = true ∧ ¬ badS x) → goS l = 0
  | [], _ => rfl
  | y :: l, h => by
    unfold goS
    rw [if_neg (by simp [(h y List.mem_cons_self).1]), if_neg (h y List.mem_cons_self).2]
    exact goS_of fun x hx => h x (List.mem_cons_of_mem _ hx)
theorem stockE_name {l : List Stock} (h : stockE l = 0) : ∀ x ∈ l, isNm x.part = true := by
  unfold stockE at h
  split at h
  · cases h
  · exact goS_name h
theorem moveR_len (xs : List Stock) (m : Movement) : (moveR xs m).2.length ≤ 200 := by
  unfold moveR
  split
  · simp
  · split
    · simp
    · split
      · simp
      · rcases listS_cases (sumS [] (xs ++ (extF m ++ extT m))) with ⟨_, _, _, h⟩ | ⟨_, h⟩
        · exact h
        · rw [h]; simp
theorem ext_ok {m : Movement} (h : mvE m = 0) : ∀ x ∈ extF m ++ extT m, isNm x.part = true ∧ (0 ≤ x.place ∧ x.place ≤ 99) ∧ 0 ≤ x.state ∧ x.state ≤ 3 := fun x hx => by
  obtain ⟨h1, h2, _⟩ := mvE_ok h
  unfold rngQ at h2
  rcases List.mem_append.1 hx with hx | hx
  · unfold extF at hx
    split at hx
    · rename_i h3
      simp only [List.mem_singleton] at hx; subst hx
      exact ⟨h1, ⟨show 0 ≤ m.fro by omega, show m.fro ≤ 99 by omega⟩, show 0 ≤ m.before by omega, show m.before ≤ 3 by omega⟩
    · simp at hx
  · unfold extT at hx
    split at hx
    · rename_i h3
      simp only [List.mem_singleton] at hx; subst hx
      exact ⟨h1, ⟨show 0 ≤ m.til by omega, show m.til ≤ 99 by omega⟩, show 0 ≤ m.after by omega, show m.after ≤ 3 by omega⟩
    · simp at hx
theorem moveR_ok {xs : List Stock} {m : Movement} : stockE (moveR xs m).2 = 0 := by
  rw [stockE_le (moveR_len xs m)]
  refine goS_of fun e he => ?_
  obtain ⟨⟨h1, h2⟩, ⟨x, hx, hk⟩, h3⟩ := moveR_mem e he
  obtain ⟨k1, k2, k3⟩ := keyS_part hk
  unfold badS
  rw [k1, k2, k3]
  rcases List.mem_append.1 hx with hx | hx
  · have := (stockE_ok h1).2 x hx
    exact ⟨stockE_name h1 x hx, by omega⟩
  · have := ext_ok h2 x hx
    exact ⟨this.1, by omega⟩
/-! ### Movements one after the other -/
def goMv (F : List Stock → Movement → Int × List Stock) (xs : List Stock) (i : Int) : List Movement → List Stock × Int × Int
  | [] => (xs, i, 0)
  | m :: l => if ¬ (F xs m).1 = 0 then ([], i, (F xs m).1) else goMv F (F xs m).2 (i + 1) l
theorem gm_1 {F : List Stock → Movement → Int × List Stock} {xs : List Stock} {i : Int} {m : Movement} {l : List Movement} {R : List Stock × Int × Int} (h : R = goMv F xs i (m :: l)) (h2 : ¬ (F xs m).1 = 0) : R = ([], i, (F xs m).1) := by rw [h, goMv, if_pos h2]
theorem gm_2 {F : List Stock → Movement → Int × List Stock} {xs : List Stock} {i : Int} {m : Movement} {l : List Movement} {R : List Stock × Int × Int} (h : R = goMv F xs i (m :: l)) (h2 : (F xs m).1 = 0) : R = goMv F (F xs m).2 (i + 1) l := by rw [h, goMv, if_neg (by simpa using h2)]
def movesR (xs : List Stock) (ms : List Movement) : List Stock × Int × Int := if ms.length = 0 then ((normR xs).2, 0, (normR xs).1) else goMv moveR xs 0 ms
def refMovesR (xs : List Stock) (ms : List Movement) : List Stock × Int × Int := if ms.length = 0 then ((settS (putF [] xs)).2, 0, (settS (putF [] xs)).1) else goMv refMoveR xs 0 ms
theorem mvs_0 {xs : List Stock} {ms : List Movement} (h : ms.length = 0) : movesR xs ms = ((normR xs).2, 0, (normR xs).1) := if_pos h
theorem mvs_1 {xs : List Stock} {ms : List Movement} {R : List Stock × Int × Int} (h : ¬ ms.length = 0) (h2 : goMv moveR xs 0 ms = R) : movesR xs ms = R := by rw [movesR, if_neg h, h2]
theorem rms_0 {xs : List Stock} {ms : List Movement} (h : ms.length = 0) : refMovesR xs ms = ((settS (putF [] xs)).2, 0, (settS (putF [] xs)).1) := if_pos h
theorem rms_1 {xs : List Stock} {ms : List Movement} {R : List Stock × Int × Int} (h : ¬ ms.length = 0) (h2 : goMv refMoveR xs 0 ms = R) : refMovesR xs ms = R := by rw [refMovesR, if_neg h, h2]
theorem goMv_ref : ∀ (ms : List Movement) (xs : List Stock) (i : Int), stockE xs = 0 → goMv moveR xs i ms = goMv refMoveR xs i ms
  | [], _, _, _ => rfl
  | m :: ms, xs, i, h => by
    unfold goMv
    rw [← move_ref h]
    split
    · rfl
    · exact goMv_ref ms _ _ moveR_ok
theorem nrm_ref {xs : List Stock} (h : stockE xs = 0) : normR xs = settS (putF [] xs) := by
  rw [settS_listS fun x hx => ((stockE_ok h).2 x hx).2.2.1, normR, if_pos h]
theorem moves_ref {xs : List Stock} {ms : List Movement} (h : stockE xs = 0) : movesR xs ms = refMovesR xs ms := by
  unfold movesR refMovesR
  rw [nrm_ref h, goMv_ref ms xs 0 h]
theorem moves_err {xs : List Stock} {ms : List Movement} (h : ¬ stockE xs = 0) : movesR xs ms = ([], 0, stockE xs) := by
  unfold movesR
  cases ms with
  | nil => rw [if_pos (by rfl), norm_1 h]
  | cons m ms => rw [if_neg (by simp), goMv, mo_1 h, if_pos (by simpa using h)]
theorem normR_len (xs : List Stock) : (normR xs).2.length ≤ 200 := by
  unfold normR
  split
  · rcases listS_cases (sumS [] xs) with ⟨_, _, _, h⟩ | ⟨_, h⟩
    · exact h
    · rw [h]; simp
  · simp
theorem goMv_len : ∀ (ms : List Movement) (xs : List Stock) (i : Int), ms ≠ [] → (goMv moveR xs i ms).1.length ≤ 200
  | [m], xs, i, _ => by
    unfold goMv goMv
    split
    · simp
    · exact moveR_len _ _
  | m :: m' :: ms, xs, i, _ => by
    unfold goMv
    split
    · simp
    · exact goMv_len (m' :: ms) _ _ (by simp)
theorem movesR_len (xs : List Stock) (ms : List Movement) : (movesR xs ms).1.length ≤ 200 := by
  unfold movesR
  split
  · exact normR_len xs
  · rename_i h; exact goMv_len ms xs 0 (fun e => h (by rw [e]; rfl))
/-- Nothing, or a list that no caller changes. -/
def LitF (v : PV) (sz : Nat) (rows : List (List PV)) : Prop := (v = .nil ∧ rows = []) ∨ v = .lit false sz rows
theorem LitF.out {h : Heap} {v : PV} {l : List Stock} (hl : LitF v 4 (l.map Stock.enc)) : Out h v (.lit false 4 (l.map Stock.enc)) := by
  rcases hl with ⟨rfl, e⟩ | rfl
  · rw [e]; exact .nil 4
  · exact .clean (.lit _ _ (fun row hr p hp => by obtain ⟨a, _, rfl⟩ := List.mem_map.1 hr; exact (stock_clean a p hp).1))
theorem tr_out {h : Heap} {r : List Stock × Int × Int} {l : List Stock} {i e : Int} {v : PV} (hr : r = (l, i, e)) (hl : LitF v 4 (l.map Stock.enc)) : Out h (.tup [v, .int i, .int e]) (.tup [.lit false 4 (r.1.map Stock.enc), .int r.2.1, .int r.2.2]) := by
  rw [hr]; exact out_3 hl.out (out_i rfl) (out_i rfl)
theorem tr_out0 {h : Heap} {r : List Stock × Int × Int} {i e : Int} (hr : r = ([], i, e)) : Out h (.tup [.nil, .int i, .int e]) (.tup [.lit false 4 (r.1.map Stock.enc), .int r.2.1, .int r.2.2]) := tr_out hr (.inl ⟨rfl, rfl⟩)

theorem pure_3 {a b c : PV} (h1 : Pure a) (h2 : Pure b) (h3 : Pure c) : Pure (.tup [a, b, c]) := .tup _ fun p hp => by
  simp only [List.mem_cons, List.not_mem_nil, or_false] at hp
  rcases hp with rfl | rfl | rfl <;> assumption

theorem fr18 : (inFrame Tryd.f18.ntmps (Tryd.f18.body.getD .skip) && Tryd.f18.results.toList.all (resScope Tryd.f18.ntmps)) = true := by kernel_rfl
theorem MovesS (xs : List Stock) (ms : List Movement) (hl : xs.length ≤ 220) (hs : ∀ x ∈ xs, x.part.size ≤ 30) (hml : ms.length ≤ 10) (hm : ∀ m ∈ ms, m.part.size ≤ 30) : PCalls Tryd.prog 18 [.lit true 4 (xs.map Stock.enc), .lit true 6 (ms.map Movement.enc)] (.tup [.lit false 4 ((movesR xs ms).1.map Stock.enc), .int (movesR xs ms).2.1, .int (movesR xs ms).2.2]) := by
  refine PCalls.of_code Tryd.func18 rfl rfl (by kernel_rfl) mixed fr18 (by show _ ≤ 45; simp) (pure_3 (.lit _ _ _ fun row hr => pure_map Stock.pure row hr) (.sc _) (.sc _)) ?_
  refine pwp_seq_plain rfl fun K1 hK1 => ?_
  refine p_step rfl (e_assign (v := .nil) rfl) trivial ?_
  refine p_step rfl (e_assign (v := .sc _) rfl) trivial ?_
  refine p_step rfl (e_assign (v := .sc _) rfl) trivial ?_
  refine p_end (hK1 _ ?_); clear hK1 K1
  refine pwp_seq_seq ?_
  refine pwp_seq_plain rfl fun K2 hK2 => ?_
  refine p_step rfl (e_move (v := .lit _ _ _) rfl) trivial ?_
  refine p_step rfl (e_len rfl (by kernel_rfl)) trivial ?_
  refine p_step rfl (e_eq rfl rfl) trivial ?_
  refine p_end (hK2 _ ?_); clear hK2 K2
  refine pwp_seq_cond rfl fun K3 hK3 => ⟨fun hb4 => ?_, fun hb4 => ?_⟩
  ·have hb4R := hb4; try simp only [z1, z2, z3, z4, z5, z6, ne_eq, z7, z8, z9, z10, z11, z12] at hb4
   refine pwp_seq_plain rfl fun K5 hK5 => ?_
   refine p_step rfl (e_move (v := .lit _ _ _) rfl) trivial ?_
   refine p_call rfl (.cons inn_lit .nil) (NormalS _ hl hs) ?_
   refine p_step rfl (e_move (v := .tup _) rfl) trivial ?_
   refine p_step rfl (e_ext (v := .lit _ _ _) rfl (by simp) rfl) trivial ?_
   refine p_step rfl (e_ext (v := .sc _) rfl (by simp) rfl) trivial ?_
   refine p_step rfl (e_assign (v := .lit _ _ _) rfl) trivial ?_
   refine p_step rfl (e_assign (v := .sc _) rfl) trivial ?_
   refine p_end (hK5 _ ?_); clear hK5 K5
   refine pwp_seq_plain rfl fun K6 hK6 => ?_
   refine p_step rfl (e_move (v := .lit _ _ _) rfl) trivial ?_
   refine p_step rfl (e_move (v := .sc _) rfl) trivial ?_
   refine p_step rfl (e_assign (v := .lit _ _ _) rfl) trivial ?_
   refine p_step rfl (e_assign (v := .sc _) rfl) trivial ?_
   refine p_step rfl (e_assign (v := .sc _) rfl) trivial ?_
   refine p_end (hK6 _ ?_); clear hK6 K6
   refine pwp_ret ?_
   refine ret_seq ?_
   refine end3 (v := .lit _ _ _) (w := .sc _) (x := .sc _) rfl rfl rfl ?_
   exact tr_out (mvs_0 (by omega)) (.inr rfl)
  have hb4R := hb4; try simp only [z1, z2, z3, z4, z5, z6, ne_eq, z7, z8, z9, z10, z11, z12] at hb4
  refine pwp_skip ?_
  refine seq_norm (hK3 _ ?_); clear hK3 K3
  refine pwp_seq_seq ?_
  refine pwp_seq_plain rfl fun K7 hK7 => ?_
  refine p_step rfl (e_move (v := .lit _ _ _) rfl) trivial ?_
  refine p_step rfl (e_len rfl (by kernel_rfl)) trivial ?_
  refine p_step rfl (e_move (v := .sc _) rfl) trivial ?_
  refine p_end (hK7 _ ?_); clear hK7 K7
  refine pwp_seq_block fun K8 hK8 => ?_
  refine pwp_loopR (α := Nat × (List Stock) × PV) [1, 23, 24] (fun (a9 : Nat × (List Stock) × PV) => [(0, (a9.2.2)), (25, .int (a9.1))]) (fun (a9 : Nat × (List Stock) × PV) (h : Heap) (_ : Nat → Nat) => ((a9.1) ≤ ms.length) ∧ (LitV (a9.2.2) 4 ((a9.2.1).map Stock.enc)) ∧ (0 < (a9.1) → LitF (a9.2.2) 4 ((a9.2.1).map Stock.enc)) ∧ ((a9.2.1).length ≤ 220) ∧ (∀ y ∈ (a9.2.1), y.part.size ≤ 30) ∧ (goMv moveR xs 0 ms = goMv moveR (a9.2.1) ((a9.1) : Int) (ms.drop (a9.1)))) (fun (a9 : Nat × (List Stock) × PV) => ms.length - (a9.1)) (0, xs, _) (by exact ⟨rfl, rfl, trivial⟩) (by exact ⟨by exact Nat.zero_le _, by exact LitV.lit, by exact fun h => absurd h (Nat.lt_irrefl 0), by assumption, by assumption, by exact rfl⟩) fun a9 r10 h11 c12 hj13 => ?_
  obtain ⟨k, ys, v⟩ := a9
  obtain ⟨hk, hlv, hlf, hyl, hys, hinv⟩ := hj13
  try dsimp only at hk
  try dsimp only at hlv
  try dsimp only at hlf
  try dsimp only at hyl
  try dsimp only at hys
  try dsimp only at hinv
  show pwp _ _ (loopQ _ _ _) ⟨sets (mix _ _ _) [(0, v), (25, .int k)], _, _⟩
  refine pwp_seq_plain rfl fun K14 hK14 => ?_
  refine p_step rfl (e_lt rfl rfl) trivial ?_
  refine p_end (hK14 _ ?_); clear hK14 K14
  refine pwp_seq_cond rfl fun K15 hK15 => ⟨fun hb16 => ?_, fun hb16 => ?_⟩
  ·have hb16R := hb16; try simp only [z1, z2, z3, z4, z5, z6, ne_eq, z7, z8, z9, z10, z11, z12] at hb16
   obtain ⟨x, hx, hd, ht⟩ := get_lt (xs := ms) (i := k) (by omega)
   rw [hd] at hinv
   have hxp := hm x (List.mem_of_getElem? hx)
   refine pwp_skip ?_
   refine seq_norm (hK15 _ ?_); clear hK15 K15
   refine pwp_seq_block fun K17 hK17 => ?_
   refine pwp_seq_plain rfl fun K18 hK18 => ?_
   refine p_step rfl (e_move (v := .sc _) rfl) trivial ?_
   refine p_step rfl (e_ixa rfl rfl (by kernel_rfl) (by kernel_rfl) (by simp only [List.length_map]; omega)) trivial ?_
   refine p_step rfl (e_loadA (n := 6) rfl (by kernel_rfl) (by kernel_rfl) (by kernel_rfl) (by simp only [List.length_map]; omega) (by decide) (by first | exact agg_map hx rfl)) trivial ?_
   refine p_new rfl (e_alloc (cs := [.str ByteArray.empty, .int 0, .int 0, .int 0, .int 0, .int 0]) (n := 6) (by kernel_rfl) rfl (by decide)) (ob_alloc (by decide)) ?_
   refine p_step rfl (e_assign (v := .sc _) rfl) trivial ?_
   refine p_store rfl (e_storeA rfl (hset_self _ _ _) rfl rfl rfl (by kernel_rfl) rfl (by kernel_rfl)) trivial ?_
   refine p_end (hK18 _ ?_); clear hK18 K18
   refine pwp_seq_plain rfl fun K19 hK19 => ?_
   refine p_step rfl (e_move (v := _) rfl) trivial ?_
   refine p_step rfl (e_loadHA (n := 6) rfl (hset_self _ _ _) (by kernel_rfl) (by kernel_rfl) (by kernel_rfl) (by exact Nat.zero_lt_one) (by decide) rfl) trivial ?_
   refine p_call rfl (.cons (LitV.inn hlv) (.cons (inn_agg (Movement.pure _)) .nil)) (MoveS _ _ hyl hys hxp) ?_
   refine p_step rfl (e_move (v := .tup _) rfl) trivial ?_
   refine p_step rfl (e_ext (v := .lit _ _ _) rfl (by simp) rfl) trivial ?_
   refine p_step rfl (e_ext (v := .sc _) rfl (by simp) rfl) trivial ?_
   refine p_step rfl (e_assign (v := .lit _ _ _) rfl) trivial ?_
   refine p_step rfl (e_assign (v := .sc _) rfl) trivial ?_
   refine p_end (hK19 _ ?_); clear hK19 K19
   refine pwp_seq_seq ?_
   refine pwp_seq_plain rfl fun K20 hK20 => ?_
   refine p_step rfl (e_move (v := .sc _) rfl) trivial ?_
   refine p_step rfl (e_ne rfl rfl) trivial ?_
   refine p_end (hK20 _ ?_); clear hK20 K20
   refine pwp_seq_cond rfl fun K21 hK21 => ⟨fun hb22 => ?_, fun hb22 => ?_⟩
   ·have hb22R := hb22; try simp only [z1, z2, z3, z4, z5, z6, ne_eq, z7, z8, z9, z10, z11, z12] at hb22
    refine pwp_seq_plain rfl fun K23 hK23 => ?_
    refine p_step rfl (e_move (v := .sc _) rfl) trivial ?_
    refine p_step rfl (e_move (v := .sc _) rfl) trivial ?_
    refine p_step rfl (e_assign (v := .nil) rfl) trivial ?_
    refine p_step rfl (e_assign (v := .sc _) rfl) trivial ?_
    refine p_step rfl (e_assign (v := .sc _) rfl) trivial ?_
    refine p_end (hK23 _ ?_); clear hK23 K23
    refine pwp_ret ?_
    refine ret_seq ?_
    refine ret_block ?_
    refine ret_seq ?_
    refine ret_loop ?_
    refine ret_block ?_
    refine ret_seq ?_
    refine end3 (v := .nil) (w := .sc _) (x := .sc _) rfl rfl rfl ?_
    exact tr_out0 (mvs_1 (by omega) (gm_1 hinv (by assumption)))
   have hb22R := hb22; try simp only [z1, z2, z3, z4, z5, z6, ne_eq, z7, z8, z9, z10, z11, z12] at hb22
   refine pwp_skip ?_
   refine seq_norm (hK21 _ ?_); clear hK21 K21
   refine pwp_plain rfl fun K24 hK24 => ?_
   refine p_step rfl (e_move (v := .lit _ _ _) rfl) trivial ?_
   refine p_step rfl (e_assign (v := .lit _ _ _) rfl) trivial ?_
   refine p_end (hK24 _ ?_); clear hK24 K24
   refine block_norm ?_
   refine seq_norm (hK17 _ ?_); clear hK17 K17
   refine pwp_plain rfl fun K25 hK25 => ?_
   refine p_step rfl (e_add rfl rfl (by omega)) trivial ?_
   refine p_step rfl (e_move (v := .sc _) rfl) trivial ?_
   refine p_end (hK25 _ ?_); clear hK25 K25
   exact loop_again ((k + 1, (moveR ys x).2, _)) (by show _ < _; simp only; omega) ⟨rfl, rfl, rfl, trivial⟩ ⟨rfl, rfl, trivial⟩ (by exact ⟨by show _ + 1 ≤ _; omega, by exact LitV.lit, by exact fun _ => .inr rfl, by exact Nat.le_trans (moveR_len _ _) (by decide), by exact moveR_part hys hxp, by exact gm_2 hinv (by assumption)⟩)
  have hb16R := hb16; try simp only [z1, z2, z3, z4, z5, z6, ne_eq, z7, z8, z9, z10, z11, z12] at hb16
  obtain rfl : k = ms.length := by omega
  rw [List.drop_length] at hinv; simp only [goMv] at hinv
  refine pwp_exit ?_
  refine exit_seq ?_
  clear hK15 K15
  refine exit_loop ?_
  refine exit_here ?_
  refine seq_norm (hK8 _ ?_); clear hK8 K8
  refine pwp_seq_plain rfl fun K26 hK26 => ?_
  refine p_step rfl (e_move (v := _) rfl) trivial ?_
  refine p_step rfl (e_move (v := .lit _ _ _) rfl) trivial ?_
  refine p_step rfl (e_len rfl (by kernel_rfl)) trivial ?_
  refine p_step rfl (e_assign (v := _) rfl) trivial ?_
  refine p_step rfl (e_assign (v := .sc _) rfl) trivial ?_
  refine p_step rfl (e_assign (v := .sc _) rfl) trivial ?_
  refine p_end (hK26 _ ?_); clear hK26 K26
  refine pwp_ret ?_
  refine end3 (v := _) (w := .sc _) (x := .sc _) rfl rfl rfl ?_
  exact tr_out (mvs_1 (by omega) (by rw [hinv, List.length_map])) (hlf (by omega))

theorem fr19 : (inFrame Tryd.f19.ntmps (Tryd.f19.body.getD .skip) && Tryd.f19.results.toList.all (resScope Tryd.f19.ntmps)) = true := by kernel_rfl
theorem refMoves (xs : List Stock) (ms : List Movement) (hl : xs.length ≤ 220) (hs : ∀ x ∈ xs, x.part.size ≤ 30) (hml : ms.length ≤ 10) (hm : ∀ m ∈ ms, m.part.size ≤ 30) (h0 : stockE xs = 0) : PCalls Tryd.prog 19 [.lit true 4 (xs.map Stock.enc), .lit true 6 (ms.map Movement.enc)] (.tup [.lit false 4 ((refMovesR xs ms).1.map Stock.enc), .int (refMovesR xs ms).2.1, .int (refMovesR xs ms).2.2]) := by
  refine PCalls.of_code Tryd.func19 rfl rfl (by kernel_rfl) mixed fr19 (by show _ ≤ 43; simp) (pure_3 (.lit _ _ _ fun row hr => pure_map Stock.pure row hr) (.sc _) (.sc _)) ?_
  refine pwp_seq_plain rfl fun K1 hK1 => ?_
  refine p_step rfl (e_assign (v := .nil) rfl) trivial ?_
  refine p_step rfl (e_assign (v := .sc _) rfl) trivial ?_
  refine p_step rfl (e_assign (v := .sc _) rfl) trivial ?_
  refine p_end (hK1 _ ?_); clear hK1 K1
  refine pwp_seq_plain rfl fun K2 hK2 => ?_
  refine p_step rfl (e_move (v := .lit _ _ _) rfl) trivial ?_
  refine p_call rfl (.cons inn_lit .nil) (refNormal _ h0) ?_
  refine p_step rfl (e_move (v := .tup _) rfl) trivial ?_
  refine p_step rfl (e_ext (v := .lit _ _ _) rfl (by simp) rfl) trivial ?_
  refine p_step rfl (e_ext (v := .sc _) rfl (by simp) rfl) trivial ?_
  refine p_step rfl (e_assign (v := .lit _ _ _) rfl) trivial ?_
  refine p_step rfl (e_assign (v := .sc _) rfl) trivial ?_
  refine p_end (hK2 _ ?_); clear hK2 K2
  refine pwp_seq_seq ?_
  refine pwp_seq_plain rfl fun K3 hK3 => ?_
  refine p_step rfl (e_move (v := .lit _ _ _) rfl) trivial ?_
  refine p_step rfl (e_len rfl (by kernel_rfl)) trivial ?_
  refine p_step rfl (e_eq rfl rfl) trivial ?_
  refine p_end (hK3 _ ?_); clear hK3 K3
  refine pwp_seq_cond rfl fun K4 hK4 => ⟨fun hb5 => ?_, fun hb5 => ?_⟩
  ·have hb5R := hb5; try simp only [z1, z2, z3, z4, z5, z6, ne_eq, z7, z8, z9, z10, z11, z12] at hb5
   refine pwp_seq_plain rfl fun K6 hK6 => ?_
   refine p_step rfl (e_move (v := .lit _ _ _) rfl) trivial ?_
   refine p_step rfl (e_move (v := .sc _) rfl) trivial ?_
   refine p_step rfl (e_assign (v := .lit _ _ _) rfl) trivial ?_
   refine p_step rfl (e_assign (v := .sc _) rfl) trivial ?_
   refine p_step rfl (e_assign (v := .sc _) rfl) trivial ?_
   refine p_end (hK6 _ ?_); clear hK6 K6
   refine pwp_ret ?_
   refine ret_seq ?_
   refine end3 (v := .lit _ _ _) (w := .sc _) (x := .sc _) rfl rfl rfl ?_
   exact tr_out (rms_0 (by omega)) (.inr rfl)
  have hb5R := hb5; try simp only [z1, z2, z3, z4, z5, z6, ne_eq, z7, z8, z9, z10, z11, z12] at hb5
  refine pwp_skip ?_
  refine seq_norm (hK4 _ ?_); clear hK4 K4
  refine pwp_seq_plain rfl fun K7 hK7 => ?_
  refine p_step rfl (e_move (v := .lit _ _ _) rfl) trivial ?_
  refine p_step rfl (e_assign (v := .lit _ _ _) rfl) trivial ?_
  refine p_end (hK7 _ ?_); clear hK7 K7
  refine pwp_seq_seq ?_
  refine pwp_seq_plain rfl fun K8 hK8 => ?_
  refine p_step rfl (e_assign (v := .sc _) rfl) trivial ?_
  refine p_end (hK8 _ ?_); clear hK8 K8
  refine pwp_seq_block fun K9 hK9 => ?_
  refine pwp_loopR (α := Nat × (List Stock) × PV) [1] (fun (a10 : Nat × (List Stock) × PV) => [(7, (a10.2.2)), (9, .int (a10.1))]) (fun (a10 : Nat × (List Stock) × PV) (h : Heap) (_ : Nat → Nat) => ((a10.1) ≤ ms.length) ∧ (LitV (a10.2.2) 4 ((a10.2.1).map Stock.enc)) ∧ (0 < (a10.1) → LitF (a10.2.2) 4 ((a10.2.1).map Stock.enc)) ∧ ((a10.2.1).length ≤ 220) ∧ (∀ y ∈ (a10.2.1), y.part.size ≤ 30) ∧ (goMv refMoveR xs 0 ms = goMv refMoveR (a10.2.1) ((a10.1) : Int) (ms.drop (a10.1))) ∧ (stockE (a10.2.1) = 0)) (fun (a10 : Nat × (List Stock) × PV) => ms.length - (a10.1)) (0, xs, _) (by exact ⟨rfl, rfl, trivial⟩) (by exact ⟨by exact Nat.zero_le _, by exact LitV.lit, by exact fun h => absurd h (Nat.lt_irrefl 0), by assumption, by assumption, by exact rfl, by exact h0⟩) fun a10 r11 h12 c13 hj14 => ?_
  obtain ⟨k, ys, v⟩ := a10
  obtain ⟨hk, hlv, hlf, hyl, hys, hinv, hye⟩ := hj14
  try dsimp only at hk
  try dsimp only at hlv
  try dsimp only at hlf
  try dsimp only at hyl
  try dsimp only at hys
  try dsimp only at hinv
  try dsimp only at hye
  show pwp _ _ (loopQ _ _ _) ⟨sets (mix _ _ _) [(7, v), (9, .int k)], _, _⟩
  refine pwp_seq_seq ?_
  refine pwp_seq_plain rfl fun K15 hK15 => ?_
  refine p_step rfl (e_move (v := .sc _) rfl) trivial ?_
  refine p_step rfl (e_move (v := .lit _ _ _) rfl) trivial ?_
  refine p_step rfl (e_len rfl (by kernel_rfl)) trivial ?_
  refine p_step rfl (e_lt rfl rfl) trivial ?_
  refine p_end (hK15 _ ?_); clear hK15 K15
  refine pwp_seq_cond rfl fun K16 hK16 => ⟨fun hb17 => ?_, fun hb17 => ?_⟩
  ·have hb17R := hb17; try simp only [z1, z2, z3, z4, z5, z6, ne_eq, z7, z8, z9, z10, z11, z12] at hb17
   obtain ⟨x, hx, hd, ht⟩ := get_lt (xs := ms) (i := k) (by omega)
   rw [hd] at hinv
   have hxp := hm x (List.mem_of_getElem? hx)
   refine pwp_skip ?_
   refine seq_norm (hK16 _ ?_); clear hK16 K16
   refine pwp_seq_block fun K18 hK18 => ?_
   refine pwp_seq_plain rfl fun K19 hK19 => ?_
   refine p_step rfl (e_move (v := _) rfl) trivial ?_
   refine p_step rfl (e_move (v := .lit _ _ _) rfl) trivial ?_
   refine p_step rfl (e_move (v := .sc _) rfl) trivial ?_
   refine p_step rfl (e_ixa rfl rfl (by kernel_rfl) (by kernel_rfl) (by simp only [List.length_map]; omega)) trivial ?_
   refine p_step rfl (e_loadA (n := 6) rfl (by kernel_rfl) (by kernel_rfl) (by kernel_rfl) (by simp only [List.length_map]; omega) (by decide) (by first | exact agg_map hx rfl)) trivial ?_
   refine p_call rfl (.cons (LitV.inn hlv) (.cons (inn_agg (Movement.pure _)) .nil)) (refMove _ _ hyl (fun y hy => by have := (stockE_ok hye).2 y hy; omega) hxp) ?_
   refine p_step rfl (e_move (v := .tup _) rfl) trivial ?_
   refine p_step rfl (e_ext (v := .lit _ _ _) rfl (by simp) rfl) trivial ?_
   refine p_step rfl (e_ext (v := .sc _) rfl (by simp) rfl) trivial ?_
   refine p_step rfl (e_assign (v := .lit _ _ _) rfl) trivial ?_
   refine p_step rfl (e_assign (v := .sc _) rfl) trivial ?_
   refine p_end (hK19 _ ?_); clear hK19 K19
   refine pwp_seq_plain rfl fun K20 hK20 => ?_
   refine p_step rfl (e_move (v := .sc _) rfl) trivial ?_
   refine p_step rfl (e_ne rfl rfl) trivial ?_
   refine p_end (hK20 _ ?_); clear hK20 K20
   refine pwp_cond rfl (fun hb21 => ?_) (fun hb21 => ?_)
   ·have hb21R := hb21; try simp only [z1, z2, z3, z4, z5, z6, ne_eq, z7, z8, z9, z10, z11, z12] at hb21
    refine pwp_seq_plain rfl fun K22 hK22 => ?_
    refine p_step rfl (e_move (v := .sc _) rfl) trivial ?_
    refine p_step rfl (e_move (v := .sc _) rfl) trivial ?_
    refine p_step rfl (e_assign (v := .nil) rfl) trivial ?_
    refine p_step rfl (e_assign (v := .sc _) rfl) trivial ?_
    refine p_step rfl (e_assign (v := .sc _) rfl) trivial ?_
    refine p_end (hK22 _ ?_); clear hK22 K22
    refine pwp_ret ?_
    refine ret_block ?_
    refine ret_seq ?_
    refine ret_loop ?_
    refine ret_block ?_
    refine ret_seq ?_
    refine end3 (v := .nil) (w := .sc _) (x := .sc _) rfl rfl rfl ?_
    exact tr_out0 (rms_1 (by omega) (gm_1 hinv (by assumption)))
   have hb21R := hb21; try simp only [z1, z2, z3, z4, z5, z6, ne_eq, z7, z8, z9, z10, z11, z12] at hb21
   refine pwp_skip ?_
   refine block_norm ?_
   refine seq_norm (hK18 _ ?_); clear hK18 K18
   refine pwp_plain rfl fun K23 hK23 => ?_
   refine p_step rfl (e_move (v := .sc _) rfl) trivial ?_
   refine p_step rfl (e_add rfl rfl (by omega)) trivial ?_
   refine p_step rfl (e_assign (v := .sc _) rfl) trivial ?_
   refine p_end (hK23 _ ?_); clear hK23 K23
   exact loop_again ((k + 1, (refMoveR ys x).2, _)) (by show _ < _; simp only; omega) ⟨rfl, trivial⟩ ⟨rfl, rfl, trivial⟩ (by exact ⟨by show _ + 1 ≤ _; omega, by exact LitV.lit, by exact fun _ => .inr rfl, by (rw [← move_ref hye]; exact Nat.le_trans (moveR_len _ _) (by decide)), by (rw [← move_ref hye]; exact moveR_part hys hxp), by exact gm_2 hinv (by assumption), by (rw [← move_ref hye]; exact moveR_ok)⟩)
  have hb17R := hb17; try simp only [z1, z2, z3, z4, z5, z6, ne_eq, z7, z8, z9, z10, z11, z12] at hb17
  obtain rfl : k = ms.length := by omega
  rw [List.drop_length] at hinv; simp only [goMv] at hinv
  refine pwp_exit ?_
  refine exit_seq ?_
  clear hK16 K16
  refine exit_loop ?_
  refine exit_here ?_
  refine seq_norm (hK9 _ ?_); clear hK9 K9
  refine pwp_seq_plain rfl fun K24 hK24 => ?_
  refine p_step rfl (e_move (v := _) rfl) trivial ?_
  refine p_step rfl (e_move (v := .lit _ _ _) rfl) trivial ?_
  refine p_step rfl (e_len rfl (by kernel_rfl)) trivial ?_
  refine p_step rfl (e_assign (v := _) rfl) trivial ?_
  refine p_step rfl (e_assign (v := .sc _) rfl) trivial ?_
  refine p_step rfl (e_assign (v := .sc _) rfl) trivial ?_
  refine p_end (hK24 _ ?_); clear hK24 K24
  refine pwp_ret ?_
  refine end3 (v := _) (w := .sc _) (x := .sc _) rfl rfl rfl ?_
  exact tr_out (rms_1 (by omega) (by rw [hinv, List.length_map])) (hlf (by omega))

theorem fr4 : (inFrame Tryd.f4.ntmps (Tryd.f4.body.getD .skip) && Tryd.f4.results.toList.all (resScope Tryd.f4.ntmps)) = true := by kernel_rfl
theorem hrows (xs : List Stock) (ms : List Movement) (hlx : xs.length ≤ 9223372036854775807) (hlm : ms.length ≤ 9223372036854775807) : PCalls Tryd.prog 4 [.lit true 4 (xs.map Stock.enc), .lit true 6 (ms.map Movement.enc)] (.bool true) := by
  refine PCalls.of_code Tryd.func4 rfl rfl (by kernel_rfl) mixed fr4 (by show _ ≤ 79; simp) (.sc _) ?_
  refine pwp_seq_plain rfl fun K1 hK1 => ?_
  refine p_step rfl (e_assign (v := .sc _) rfl) trivial ?_
  refine p_end (hK1 _ ?_); clear hK1 K1
  refine pwp_seq_seq ?_
  refine pwp_seq_plain rfl fun K2 hK2 => ?_
  refine p_call rfl .nil (awake) ?_
  refine p_step rfl (e_not rfl) trivial ?_
  refine p_end (hK2 _ ?_); clear hK2 K2
  refine pwp_seq_cond (t := false) rfl fun K3 hK3 => ⟨nofun, fun _ => ?_⟩
  refine pwp_skip ?_
  refine seq_norm (hK3 _ ?_); clear hK3 K3
  refine pwp_seq_seq ?_
  refine pwp_seq_gops rfl fun K4 hK4 => ?_
  refine g_begin ?_
  refine g_step rfl rfl rfl rfl (e_move (v := .lit _ _ _) rfl) trivial ?_
  refine g_call rfl rfl rfl rfl (.cons inn_lit .nil) (ShortS _ hlx) ?_
  refine g_step rfl rfl rfl rfl (e_not rfl) trivial ?_
  refine g_step rfl rfl rfl rfl (e_move (v := .sc _) rfl) trivial ?_
  refine g_cases (fun hb5 => ?_) (fun hb5 => ?_)
  ·have hb5R := hb5; simp only [z1, z2, z3, z4, z5, z6, ne_eq, z7, z8, z9, z10, z11, z12] at hb5
   refine g_skip rfl rfl rfl ?_
   refine g_skip rfl rfl rfl ?_
   refine g_skip rfl rfl rfl ?_
   refine g_step rfl rfl rfl rfl (e_pickT (v := .sc _) rfl rfl) trivial ?_
   refine g_end (ds := [19, 20, 21]) rfl rfl (hK4 _ ?_); clear hK4 K4
   refine pwp_seq_cond (t := true) rfl fun K6 hK6 => ⟨fun _ => ?_, nofun⟩
   refine pwp_seq_plain rfl fun K7 hK7 => ?_
   refine p_step rfl (e_assign (v := .sc _) rfl) trivial ?_
   refine p_end (hK7 _ ?_); clear hK7 K7
   refine pwp_ret ?_
   refine ret_seq ?_
   refine end1 (v := .sc _) rfl ?_
   exact out_b rfl
  have hb5R := hb5; simp only [z1, z2, z3, z4, z5, z6, ne_eq, z7, z8, z9, z10, z11, z12] at hb5; have hsh := shortB_iff hb5
  refine g_step rfl rfl rfl rfl (e_move (v := .lit _ _ _) rfl) trivial ?_
  refine g_step rfl rfl rfl rfl (e_len rfl (by kernel_rfl)) trivial ?_
  refine g_step rfl rfl rfl rfl (e_gt rfl rfl) trivial ?_
  refine g_step rfl rfl rfl rfl (e_pickF (v := .sc _) rfl rfl) trivial ?_
  refine g_end (ds := [19, 20, 21]) rfl rfl (hK4 _ ?_); clear hK4 K4
  refine pwp_seq_cond rfl fun K8 hK8 => ⟨fun hb9 => ?_, fun hb9 => ?_⟩
  ·have hb9R := hb9; simp only [z1, z2, z3, z4, z5, z6, ne_eq, z7, z8, z9, z10, z11, z12] at hb9
   refine pwp_seq_plain rfl fun K10 hK10 => ?_
   refine p_step rfl (e_assign (v := .sc _) rfl) trivial ?_
   refine p_end (hK10 _ ?_); clear hK10 K10
   refine pwp_ret ?_
   refine ret_seq ?_
   refine end1 (v := .sc _) rfl ?_
   exact out_b rfl
  have hb9R := hb9; simp only [z1, z2, z3, z4, z5, z6, ne_eq, z7, z8, z9, z10, z11, z12] at hb9
  refine pwp_skip ?_
  refine seq_norm (hK8 _ ?_); clear hK8 K8
  refine pwp_seq_seq ?_
  refine pwp_seq_plain rfl fun K11 hK11 => ?_
  refine p_step rfl (e_assign (v := .sc _) rfl) trivial ?_
  refine p_end (hK11 _ ?_); clear hK11 K11
  refine pwp_seq_block fun K12 hK12 => ?_
  refine pwp_loopR (α := Nat) [0, 1] (fun (k : Nat) => [(5, .int (k))]) (fun (k : Nat) (h : Heap) (_ : Nat → Nat) => ((k) ≤ ms.length) ∧ (∀ m ∈ ms.take (k), m.part.size ≤ 30)) (fun (k : Nat) => ms.length - (k)) (0) (by exact ⟨rfl, trivial⟩) (by exact ⟨by exact Nat.zero_le _, by simp⟩) fun k r13 h14 c15 hj16 => ?_
  obtain ⟨hk, hq⟩ := hj16
  try dsimp only at hk
  try dsimp only at hq
  show pwp _ _ (loopQ _ _ _) ⟨sets (mix _ _ _) [(5, .int k)], _, _⟩
  refine pwp_seq_seq ?_
  refine pwp_seq_plain rfl fun K17 hK17 => ?_
  refine p_step rfl (e_move (v := .sc _) rfl) trivial ?_
  refine p_step rfl (e_move (v := .lit _ _ _) rfl) trivial ?_
  refine p_step rfl (e_len rfl (by kernel_rfl)) trivial ?_
  refine p_step rfl (e_lt rfl rfl) trivial ?_
  refine p_end (hK17 _ ?_); clear hK17 K17
  refine pwp_seq_cond rfl fun K18 hK18 => ⟨fun hb19 => ?_, fun hb19 => ?_⟩
  ·have hb19R := hb19; simp only [z1, z2, z3, z4, z5, z6, ne_eq, z7, z8, z9, z10, z11, z12] at hb19
   obtain ⟨x, hx, hd, ht⟩ := get_lt (xs := ms) (i := k) (by omega)
   refine pwp_skip ?_
   refine seq_norm (hK18 _ ?_); clear hK18 K18
   refine pwp_seq_block fun K20 hK20 => ?_
   refine pwp_seq_plain rfl fun K21 hK21 => ?_
   refine p_step rfl (e_move (v := .lit _ _ _) rfl) trivial ?_
   refine p_step rfl (e_move (v := .sc _) rfl) trivial ?_
   refine p_step rfl (e_ixa rfl rfl (by kernel_rfl) (by kernel_rfl) (by simp only [List.length_map]; omega)) trivial ?_
   refine p_step rfl (e_fa (pl := [(0, 1, false), (1, 1, false), (2, 1, false), (3, 1, false), (4, 1, false), (5, 1, false)]) rfl (by kernel_rfl) (by kernel_rfl) (by decide) rfl) trivial ?_
   refine p_step rfl (e_load (v := .sc _) rfl (by kernel_rfl) (by kernel_rfl) (by kernel_rfl) (by simp only [List.length_map]; omega) (by decide) ((cell_map hx _).trans rfl)) trivial ?_
   refine p_step rfl (e_lenS rfl (by kernel_rfl)) trivial ?_
   refine p_step rfl (e_gt rfl rfl) trivial ?_
   refine p_end (hK21 _ ?_); clear hK21 K21
   refine pwp_cond rfl (fun hb22 => ?_) (fun hb22 => ?_)
   ·have hb22R := hb22; simp only [z1, z2, z3, z4, z5, z6, ne_eq, z7, z8, z9, z10, z11, z12] at hb22
    refine pwp_seq_plain rfl fun K23 hK23 => ?_
    refine p_step rfl (e_assign (v := .sc _) rfl) trivial ?_
    refine p_end (hK23 _ ?_); clear hK23 K23
    refine pwp_ret ?_
    refine ret_block ?_
    refine ret_seq ?_
    refine ret_loop ?_
    refine ret_block ?_
    refine ret_seq ?_
    refine end1 (v := .sc _) rfl ?_
    exact out_b rfl
   have hb22R := hb22; simp only [z1, z2, z3, z4, z5, z6, ne_eq, z7, z8, z9, z10, z11, z12] at hb22
   refine pwp_skip ?_
   refine block_norm ?_
   refine seq_norm (hK20 _ ?_); clear hK20 K20
   refine pwp_plain rfl fun K24 hK24 => ?_
   refine p_step rfl (e_move (v := .sc _) rfl) trivial ?_
   refine p_step rfl (e_add rfl rfl (by omega)) trivial ?_
   refine p_step rfl (e_assign (v := .sc _) rfl) trivial ?_
   refine p_end (hK24 _ ?_); clear hK24 K24
   exact loop_again (k + 1) (by show _ < _; omega) ⟨rfl, rfl, trivial⟩ ⟨rfl, trivial⟩ (by exact ⟨by show _ + 1 ≤ _; omega, by exact all_snocS ht hq (by omega)⟩)
  have hb19R := hb19; simp only [z1, z2, z3, z4, z5, z6, ne_eq, z7, z8, z9, z10, z11, z12] at hb19
  obtain rfl : k = ms.length := by omega
  rw [List.take_length] at hq
  have hms := hq
  refine pwp_exit ?_
  refine exit_seq ?_
  clear hK18 K18
  refine exit_loop ?_
  refine exit_here ?_
  refine seq_norm (hK12 _ ?_); clear hK12 K12
  refine pwp_seq_plain rfl fun K25 hK25 => ?_
  refine p_step rfl (e_move (v := .lit _ _ _) rfl) trivial ?_
  refine p_step rfl (e_move (v := .lit _ _ _) rfl) trivial ?_
  refine p_call rfl (.cons inn_lit (.cons inn_lit .nil)) (MovesS _ _ hsh.2.1 hsh.2.2 (by omega) hms) ?_
  refine p_step rfl (e_move (v := .tup _) rfl) trivial ?_
  refine p_step rfl (e_ext (v := .lit _ _ _) rfl (by simp) rfl) trivial ?_
  refine p_step rfl (e_ext (v := .sc _) rfl (by simp) rfl) trivial ?_
  refine p_step rfl (e_ext (v := .sc _) rfl (by simp) rfl) trivial ?_
  refine p_step rfl (e_assign (v := .lit _ _ _) rfl) trivial ?_
  refine p_step rfl (e_assign (v := .sc _) rfl) trivial ?_
  refine p_step rfl (e_assign (v := .sc _) rfl) trivial ?_
  refine p_end (hK25 _ ?_); clear hK25 K25
  refine pwp_seq_seq ?_
  refine pwp_seq_plain rfl fun K26 hK26 => ?_
  refine p_step rfl (e_move (v := .lit _ _ _) rfl) trivial ?_
  refine p_call rfl (.cons inn_lit .nil) (refCheckS _ hsh.2.1 hsh.2.2) ?_
  refine p_step rfl (e_assign (v := .sc _) rfl) trivial ?_
  refine p_end (hK26 _ ?_); clear hK26 K26
  refine pwp_seq_seq ?_
  refine pwp_seq_plain rfl fun K27 hK27 => ?_
  refine p_step rfl (e_move (v := .sc _) rfl) trivial ?_
  refine p_step rfl (e_ne rfl rfl) trivial ?_
  refine p_end (hK27 _ ?_); clear hK27 K27
  refine pwp_seq_cond rfl fun K28 hK28 => ⟨fun hb29 => ?_, fun hb29 => ?_⟩
  ·have hb29R := hb29; simp only [z1, z2, z3, z4, z5, z6, ne_eq, z7, z8, z9, z10, z11, z12] at hb29; have hm1 := moves_err (ms := ms) hb29
   refine pwp_seq_gops rfl fun K30 hK30 => ?_
   refine g_begin ?_
   refine g_step rfl rfl rfl rfl (e_move (v := .sc _) rfl) trivial ?_
   refine g_step rfl rfl rfl rfl (e_move (v := .sc _) rfl) trivial ?_
   refine g_step rfl rfl rfl rfl (e_eq rfl rfl) trivial ?_
   refine g_step rfl rfl rfl rfl (e_move (v := .sc _) rfl) trivial ?_
   refine g_cases (fun hb31 => ?_) (fun hb31 => ?_)
   ·have hb31R := hb31; simp only [z1, z2, z3, z4, z5, z6, ne_eq, z7, z8, z9, z10, z11, z12] at hb31
    refine g_step rfl rfl rfl rfl (e_move (v := .lit _ _ _) rfl) trivial ?_
    refine g_step rfl rfl rfl rfl (e_len rfl (by kernel_rfl)) trivial ?_
    refine g_step rfl rfl rfl rfl (e_eq rfl rfl) trivial ?_
    refine g_step rfl rfl rfl rfl (e_pickT (v := .sc _) rfl rfl) trivial ?_
    refine g_step rfl rfl rfl rfl (e_move (v := .sc _) rfl) trivial ?_
    refine g_cases (fun hb32 => ?_) (fun hb32 => ?_)
    ·have hb32R := hb32; simp only [z1, z2, z3, z4, z5, z6, ne_eq, z7, z8, z9, z10, z11, z12] at hb32
     refine g_step rfl rfl rfl rfl (e_move (v := .sc _) rfl) trivial ?_
     refine g_step rfl rfl rfl rfl (e_eq rfl rfl) trivial ?_
     refine g_step rfl rfl rfl rfl (e_pickT (v := .sc _) rfl rfl) trivial ?_
     refine g_step rfl rfl rfl rfl (e_assign (v := .sc _) rfl) trivial ?_
     refine g_end (ds := [51, 52, 53, 56, 57]) rfl rfl (hK30 _ ?_); clear hK30 K30
     refine pwp_ret ?_
     refine ret_seq ?_
     refine end1 (v := .sc _) rfl ?_
     (refine out_b ?_; simp [hm1]; done)
    have hb32R := hb32; simp only [z1, z2, z3, z4, z5, z6, ne_eq, z7, z8, z9, z10, z11, z12] at hb32
    refine g_skip rfl rfl rfl ?_
    refine g_skip rfl rfl rfl ?_
    refine g_step rfl rfl rfl rfl (e_pickF (v := .sc _) rfl rfl) trivial ?_
    refine g_step rfl rfl rfl rfl (e_assign (v := .sc _) rfl) trivial ?_
    refine g_end (ds := [51, 52, 53, 56, 57]) rfl rfl (hK30 _ ?_); clear hK30 K30
    refine pwp_ret ?_
    refine ret_seq ?_
    refine end1 (v := .sc _) rfl ?_
    (exfalso; simp_all; done)
   have hb31R := hb31; simp only [z1, z2, z3, z4, z5, z6, ne_eq, z7, z8, z9, z10, z11, z12] at hb31
   refine g_skip rfl rfl rfl ?_
   refine g_skip rfl rfl rfl ?_
   refine g_skip rfl rfl rfl ?_
   refine g_step rfl rfl rfl rfl (e_pickF (v := .sc _) rfl rfl) trivial ?_
   refine g_step rfl rfl rfl rfl (e_move (v := .sc _) rfl) trivial ?_
   refine g_skip rfl rfl rfl ?_
   refine g_skip rfl rfl rfl ?_
   refine g_step rfl rfl rfl rfl (e_pickF (v := .sc _) rfl rfl) trivial ?_
   refine g_step rfl rfl rfl rfl (e_assign (v := .sc _) rfl) trivial ?_
   refine g_end (ds := [51, 52, 53, 56, 57]) rfl rfl (hK30 _ ?_); clear hK30 K30
   refine pwp_ret ?_
   refine ret_seq ?_
   refine end1 (v := .sc _) rfl ?_
   (exfalso; simp_all; done)
  have hb29R := hb29; simp only [z1, z2, z3, z4, z5, z6, ne_eq, z7, z8, z9, z10, z11, z12] at hb29; have hm0 := moves_ref (ms := ms) hb29
  refine pwp_skip ?_
  refine seq_norm (hK28 _ ?_); clear hK28 K28
  refine pwp_seq_plain rfl fun K33 hK33 => ?_
  refine p_step rfl (e_move (v := .lit _ _ _) rfl) trivial ?_
  refine p_step rfl (e_move (v := .lit _ _ _) rfl) trivial ?_
  refine p_call rfl (.cons inn_lit (.cons inn_lit .nil)) (refMoves _ _ hsh.2.1 hsh.2.2 (by omega) hms (by assumption)) ?_
  refine p_step rfl (e_move (v := .tup _) rfl) trivial ?_
  refine p_step rfl (e_ext (v := .lit _ _ _) rfl (by simp) rfl) trivial ?_
  refine p_step rfl (e_ext (v := .sc _) rfl (by simp) rfl) trivial ?_
  refine p_step rfl (e_ext (v := .sc _) rfl (by simp) rfl) trivial ?_
  refine p_step rfl (e_assign (v := .lit _ _ _) rfl) trivial ?_
  refine p_step rfl (e_assign (v := .sc _) rfl) trivial ?_
  refine p_step rfl (e_assign (v := .sc _) rfl) trivial ?_
  refine p_end (hK33 _ ?_); clear hK33 K33
  refine pwp_seq_gops rfl fun K34 hK34 => ?_
  refine g_begin ?_
  refine g_step rfl rfl rfl rfl (e_move (v := .sc _) rfl) trivial ?_
  refine g_step rfl rfl rfl rfl (e_move (v := .sc _) rfl) trivial ?_
  refine g_step rfl rfl rfl rfl (e_eq rfl rfl) trivial ?_
  refine g_step rfl rfl rfl rfl (e_move (v := .sc _) rfl) trivial ?_
  refine g_cases (fun hb35 => ?_) (fun hb35 => ?_)
  ·have hb35R := hb35; simp only [z1, z2, z3, z4, z5, z6, ne_eq, z7, z8, z9, z10, z11, z12] at hb35
   refine g_step rfl rfl rfl rfl (e_move (v := .lit _ _ _) rfl) trivial ?_
   refine g_step rfl rfl rfl rfl (e_move (v := .lit _ _ _) rfl) trivial ?_
   refine g_call rfl rfl rfl rfl (.cons inn_lit (.cons inn_lit .nil)) (SameStock _ _ (Nat.le_trans (movesR_len xs ms) (by decide))) ?_
   refine g_step rfl rfl rfl rfl (e_pickT (v := .sc _) rfl rfl) trivial ?_
   refine g_step rfl rfl rfl rfl (e_move (v := .sc _) rfl) trivial ?_
   refine g_cases (fun hb36 => ?_) (fun hb36 => ?_)
   ·have hb36R := hb36; simp only [z1, z2, z3, z4, z5, z6, ne_eq, z7, z8, z9, z10, z11, z12] at hb36
    refine g_step rfl rfl rfl rfl (e_move (v := .sc _) rfl) trivial ?_
    refine g_step rfl rfl rfl rfl (e_move (v := .sc _) rfl) trivial ?_
    refine g_step rfl rfl rfl rfl (e_eq rfl rfl) trivial ?_
    refine g_step rfl rfl rfl rfl (e_pickT (v := .sc _) rfl rfl) trivial ?_
    refine g_step rfl rfl rfl rfl (e_assign (v := .sc _) rfl) trivial ?_
    refine g_end (ds := [70, 71, 72, 75, 76, 77]) rfl rfl (hK34 _ ?_); clear hK34 K34
    refine pwp_ret ?_
    refine end1 (v := .sc _) rfl ?_
    (refine out_b ?_; simp [hm0]; done)
   have hb36R := hb36; simp only [z1, z2, z3, z4, z5, z6, ne_eq, z7, z8, z9, z10, z11, z12] at hb36
   refine g_skip rfl rfl rfl ?_
   refine g_skip rfl rfl rfl ?_
   refine g_skip rfl rfl rfl ?_
   refine g_step rfl rfl rfl rfl (e_pickF (v := .sc _) rfl rfl) trivial ?_
   refine g_step rfl rfl rfl rfl (e_assign (v := .sc _) rfl) trivial ?_
   refine g_end (ds := [70, 71, 72, 75, 76, 77]) rfl rfl (hK34 _ ?_); clear hK34 K34
   refine pwp_ret ?_
   refine end1 (v := .sc _) rfl ?_
   (exfalso; simp_all; done)
  have hb35R := hb35; simp only [z1, z2, z3, z4, z5, z6, ne_eq, z7, z8, z9, z10, z11, z12] at hb35
  refine g_skip rfl rfl rfl ?_
  refine g_skip rfl rfl rfl ?_
  refine g_nocall rfl rfl rfl ?_
  refine g_step rfl rfl rfl rfl (e_pickF (v := .sc _) rfl rfl) trivial ?_
  refine g_step rfl rfl rfl rfl (e_move (v := .sc _) rfl) trivial ?_
  refine g_skip rfl rfl rfl ?_
  refine g_skip rfl rfl rfl ?_
  refine g_skip rfl rfl rfl ?_
  refine g_step rfl rfl rfl rfl (e_pickF (v := .sc _) rfl rfl) trivial ?_
  refine g_step rfl rfl rfl rfl (e_assign (v := .sc _) rfl) trivial ?_
  refine g_end (ds := [70, 71, 72, 75, 76, 77]) rfl rfl (hK34 _ ?_); clear hK34 K34
  refine pwp_ret ?_
  refine end1 (v := .sc _) rfl ?_
  (exfalso; simp_all; done)

end Go.Proofs.YtigdmkhdmbbfiaaDoor

/- The law of parts that are conserved. No conditions. -/
set_option linter.unusedSimpArgs false
set_option linter.unusedVariables false
set_option maxRecDepth 100000
set_option maxHeartbeats 8000000
namespace Go.Proofs.YtigdmkhdmbbfiaaDoor
open Go Go.Pv

/-! ### Parts are conserved -/
theorem setG_filter : ∀ (l acc : List Stock), (setG acc l).1 = 0 → (setG acc l).2 = acc ++ l.filter fun y => decide (y.count ≠ 0)
  | [], acc, _ => by simp [setG]
  | y :: l, acc, h => by
    unfold setG at h ⊢
    by_cases h1 : 1000000 < y.count
    · rw [if_pos h1] at h; cases h
    · rw [if_neg h1] at h ⊢
      by_cases h2 : y.count ≠ 0
      · rw [if_pos h2] at h ⊢
        rw [setG_filter l _ h, List.filter_cons_of_pos (by simpa using h2), List.append_assoc]; rfl
      · rw [if_neg h2] at h ⊢
        rw [setG_filter l _ h, List.filter_cons_of_neg (by simpa using h2)]
theorem settS_filter {l : List Stock} (h : (settS l).1 = 0) : (settS l).2 = l.filter fun y => decide (y.count ≠ 0) := by
  unfold settS at h ⊢
  dsimp only at h ⊢
  by_cases h1 : (setG [] l).1 = 0
  · rw [if_pos h1] at h ⊢
    by_cases h2 : 200 < (setG [] l).2.length
    · rw [if_pos h2] at h; cases h
    · rw [if_neg h2]; rw [setG_filter l [] h1]; rfl
  · rw [if_neg h1] at h; exact absurd h h1
theorem cntS_filter (k : Kx) : ∀ l : List Stock, cntS k (l.filter fun y => decide (y.count ≠ 0)) = cntS k l
  | [] => rfl
  | y :: l => by
    by_cases h : y.count ≠ 0
    · rw [List.filter_cons_of_pos (by simpa using h)]; simp only [cntS]; rw [cntS_filter k l]
    · rw [List.filter_cons_of_neg (by simpa using h), cntS_filter k l]
      simp only [cntS]
      have : y.count = 0 := by omega
      rw [this]; split <;> omega
/-- The count of a part. -/
def totC (p : ByteArray) : List Stock → Int
  | [] => 0
  | x :: l => (if x.part = p then x.count else 0) + totC p l
theorem totS_eq (p : ByteArray) : ∀ (l : List Stock) (s : Int), totS p s l = s + totC p l
  | [], s => by simp [totS, totC]
  | x :: l, s => by unfold totS totC; rw [totS_eq p l]; split <;> omega
theorem totC_app (p : ByteArray) : ∀ (l l' : List Stock), totC p (l ++ l') = totC p l + totC p l'
  | [], l' => by simp [totC]
  | x :: l, l' => by simp only [List.cons_append, totC]; rw [totC_app p l l']; omega
theorem totC_filter (p : ByteArray) : ∀ l : List Stock, totC p (l.filter fun y => decide (y.count ≠ 0)) = totC p l
  | [] => rfl
  | y :: l => by
    by_cases h : y.count ≠ 0
    · rw [List.filter_cons_of_pos (by simpa using h)]; simp only [totC]; rw [totC_filter p l]
    · rw [List.filter_cons_of_neg (by simpa using h), totC_filter p l]
      simp only [totC]
      have : y.count = 0 := by omega
      rw [this]; split <;> omega
theorem befS_eqpart {x y : Stock} (h : befS y x = false) (h2 : befS x y = false) : x.part = y.part := by
  by_cases e : x.part = y.part
  · exact e
  · exfalso
    rw [← befS_1 (fun h3 => e h3.symm), ltB_leS] at h
    rw [← befS_1 e, ltB_leS] at h2
    simp only [Bool.not_eq_false'] at h h2
    refine e (ByteArray.ext (Array.ext' (leS_anti ?_ ?_)))
    · exact h
    · exact h2
theorem totC_putS (p : ByteArray) (x : Stock) : ∀ l : List Stock, totC p (putS x l) = (if x.part = p then x.count else 0) + totC p l
  | [] => by simp [putS, totC]
  | y :: l => by
    unfold putS
    cases h1 : befS y x with
    | true => rw [cond_true]; simp only [totC]; rw [totC_putS p x l]; omega
    | false =>
      rw [cond_false]
      cases h2 : befS x y with
      | true => rw [cond_true]; simp only [totC]
      | false =>
        rw [cond_false]
        have := befS_eqpart h1 h2
        simp only [totC]
        rw [← this]
        split <;> omega
theorem totC_putF (p : ByteArray) : ∀ (l out : List Stock), totC p (putF out l) = totC p out + totC p l
  | [], out => by simp [putF, totC]
  | x :: l, out => by simp only [putF, totC]; rw [totC_putF p l, totC_putS]; omega
theorem totC_0 {p : ByteArray} : ∀ {l : List Stock}, (∀ x ∈ l, 0 ≤ x.count ∧ x.count ≤ 1000000) → 0 ≤ totC p l ∧ totC p l ≤ 1000000 * (l.length : Int)
  | [], _ => by simp [totC]
  | x :: l, h => by
    have h1 := h x List.mem_cons_self
    have h2 := totC_0 (p := p) (l := l) fun y hy => h y (List.mem_cons_of_mem _ hy)
    simp only [totC, List.length_cons, Int.natCast_add, Int.natCast_one]
    split <;> omega
theorem totW_bd {xs : List Stock} {p : ByteArray} : 0 ≤ totW xs p ∧ totW xs p ≤ 1000000000 := by
  unfold totW
  by_cases h : stockE xs = 0
  · rw [if_pos h, totS_eq]
    have h1 := stockE_ok h
    have h2 := totC_0 (p := p) (l := xs) fun x hx => (h1.2 x hx).2.2
    omega
  · rw [if_neg h]; omega
theorem move_parts {xs : List Stock} {m : Movement} (h : stockE xs = 0) (h2 : (moveR xs m).1 = 0) : mvE m = 0 ∧ ¬ lack xs m ∧ moveR xs m = settS (putF [] (xs ++ (extF m ++ extT m))) := by
  have hr := move_ref (m := m) h
  by_cases h3 : mvE m = 0
  · by_cases h4 : lack xs m
    · rw [hr, refMoveR, if_neg (by simpa using h3), if_pos h4] at h2; cases h2
    · exact ⟨h3, h4, by rw [hr, refMoveR, if_neg (by simpa using h3), if_neg h4]⟩
  · rw [hr, refMoveR, if_pos h3] at h2; exact absurd h2 h3
def moreQ (m : Movement) (p : ByteArray) : Int := if p = m.part ∧ m.til = -1 then 0 - m.count else if p = m.part ∧ m.fro = -1 then m.count else 0
theorem ext_tot {m : Movement} {p : ByteArray} (h : mvE m = 0) : totC p (extF m ++ extT m) = moreQ m p := by
  have hp := (mvE_ok h).2.2
  simp only [permP, decide_eq_true_eq] at hp
  have h0 : ¬ (m.fro = -1 ∧ m.til = -1) := by unfold permQ at hp; omega
  rw [totC_app]
  unfold moreQ
  have e1 : totC p (extF m) = if m.fro ≠ -1 then (if m.part = p then 0 - m.count else 0) else 0 := by
    unfold extF; split <;> simp [totC]
  have e2 : totC p (extT m) = if m.til ≠ -1 then (if m.part = p then m.count else 0) else 0 := by
    unfold extT; split <;> simp [totC]
  rw [e1, e2]
  by_cases h1 : m.part = p
  · have h1' : p = m.part := h1.symm
    simp only [h1', true_and, if_true]
    by_cases h2 : m.fro = -1 <;> by_cases h3 : m.til = -1
    · exact absurd ⟨h2, h3⟩ h0
    · rw [if_neg (by simpa using h2), if_pos h3, if_neg h3, if_pos h2]; omega
    · rw [if_pos h2, if_neg (by simpa using h3), if_pos h3]; omega
    · rw [if_pos h2, if_pos h3, if_neg h3, if_neg h2]; omega
  · have h1' : ¬ p = m.part := fun e => h1 e.symm
    simp only [h1, h1', false_and, if_false]
    split <;> split <;> rfl
theorem tot_move {xs : List Stock} {m : Movement} {p : ByteArray} (h : stockE xs = 0) (h2 : (moveR xs m).1 = 0) : totW (moveR xs m).2 p = totW xs p + moreQ m p := by
  obtain ⟨h3, h4, h5⟩ := move_parts h h2
  rw [totW, totW, if_pos moveR_ok, if_pos h, totS_eq, totS_eq, Int.zero_add, Int.zero_add]
  rw [h5] at h2 ⊢
  rw [settS_filter h2, totC_filter, totC_putF, totC_app, ext_tot h3]
  simp [totC]
/-- What is made of a store hangs on its counts alone. -/
theorem lstG_filter (m : Sto) : ∀ (ks : List Kx) (acc : List Stock), lstG m acc ks = lstG m acc (ks.filter fun k => decide (0 < getS k m))
  | [], _ => rfl
  | k :: ks, acc => by
    by_cases h : 0 < getS k m
    · rw [List.filter_cons_of_pos (by simpa using h)]
      unfold lstG
      rw [lstG_filter m ks]
    · rw [List.filter_cons_of_neg (by simpa using h)]
      rw [lstG, if_neg (by omega), if_neg h, lstG_filter m ks]
theorem lstG_congr {m m' : Sto} (h : ∀ k, getS k m = getS k m') : ∀ (ks : List Kx) (acc : List Stock), lstG m acc ks = lstG m' acc ks
  | [], _ => rfl
  | k :: ks, acc => by simp only [lstG, h k]; rw [lstG_congr h ks]
theorem getS_mem {k : Kx} : ∀ {m : Sto}, 0 < getS k m → k ∈ m.map (·.1)
  | [], h => by simp [getS, aGet] at h
  | e :: m, h => by
    by_cases he : k = e.1
    · rw [he]; simp
    · have : getS k (e :: m) = getS k m := by
        unfold getS
        rw [aGet, if_neg he]
      rw [this] at h
      exact List.mem_cons_of_mem _ (getS_mem h)
theorem keys_filter {m m' : Sto} (hn : ANodup m) (hn' : ANodup m') (h : ∀ k, getS k m = getS k m') : (keysS m).filter (fun k => decide (0 < getS k m)) = (keysS m').filter (fun k => decide (0 < getS k m')) := by
  have nd : ∀ {m : Sto}, ANodup m → (keysS m).Nodup := fun {m} hn => by
    have h1 : ((sortSh (m.map fun e => kSh e.1))).Nodup := by
      rw [(sortSh_perm _).nodup_iff]
      have : (m.map fun e => kSh e.1) = (m.map (·.1)).map kSh := by rw [List.map_map]; rfl
      rw [this]
      exact hn.map _ fun a b hab e => hab (kSh_inj e)
    unfold keysS
    exact h1.map _ fun a b hab e => hab (by rw [← kSh_ofSh a, e, kSh_ofSh])
  have srt : ∀ (m : Sto) (q : Kx → Bool), ((keysS m).filter q).Pairwise (fun a b => leSh (kSh a) (kSh b) = true) := fun m q => by
    refine List.Pairwise.filter _ ?_
    unfold keysS
    rw [List.pairwise_map]
    refine List.Pairwise.imp ?_ (sortSh_sorted _)
    intro a b hab; rw [kSh_ofSh, kSh_ofSh]; exact hab
  refine List.Perm.eq_of_pairwise (le := fun a b => leSh (kSh a) (kSh b) = true) (fun a b _ _ h1 h2 => kSh_inj (leSh_anti h1 h2)) (srt m _) (srt m' _) ?_
  rw [List.perm_ext_iff_of_nodup ((nd hn).filter _) ((nd hn').filter _)]
  intro k
  simp only [List.mem_filter, decide_eq_true_eq, keysS_mem]
  constructor
  · rintro ⟨_, h2⟩; rw [h k] at h2; exact ⟨getS_mem h2, h2⟩
  · rintro ⟨_, h2⟩; rw [← h k] at h2; exact ⟨getS_mem h2, h2⟩
theorem listS_congr {m m' : Sto} (hn : ANodup m) (hn' : ANodup m') (h : ∀ k, getS k m = getS k m') : listS m = listS m' := by
  have : lstG m [] (keysS m) = lstG m' [] (keysS m') := by
    rw [lstG_filter m, keys_filter hn hn' h, lstG_congr h, ← lstG_filter m']
  unfold listS
  rw [this]
theorem sum_nodup (l : List Stock) : ANodup (sumS [] l) := sumS_nodup l (by simp [ANodup])
theorem cnt_move {xs : List Stock} {m : Movement} (h : stockE xs = 0) (h2 : (moveR xs m).1 = 0) (k : Kx) : cntS k (moveR xs m).2 = cntS k xs + cntS k (extF m ++ extT m) := by
  obtain ⟨h3, h4, h5⟩ := move_parts h h2
  rw [h5] at h2 ⊢
  rw [settS_filter h2, cntS_filter, putF_cnt, cntS_app]; simp [cntS]
theorem cnt_F (m : Movement) (k : Kx) : cntS k (extF m) = if m.fro ≠ -1 ∧ (⟨m.part, m.fro, m.before⟩ : Kx) = k then 0 - m.count else 0 := by
  unfold extF
  by_cases h : m.fro ≠ -1
  · rw [if_pos h]
    by_cases h2 : (⟨m.part, m.fro, m.before⟩ : Kx) = k
    · rw [if_pos ⟨h, h2⟩, cntS, if_pos (show keyS (⟨m.part, m.fro, m.before, 0 - m.count⟩ : Stock) = k from h2)]; simp [cntS]
    · rw [if_neg (fun h3 => h2 h3.2), cntS, if_neg (show ¬ keyS (⟨m.part, m.fro, m.before, 0 - m.count⟩ : Stock) = k from h2)]; simp [cntS]
  · rw [if_neg h, if_neg (fun h3 => h h3.1)]; rfl
theorem cnt_T (m : Movement) (k : Kx) : cntS k (extT m) = if m.til ≠ -1 ∧ (⟨m.part, m.til, m.after⟩ : Kx) = k then m.count else 0 := by
  unfold extT
  by_cases h : m.til ≠ -1
  · rw [if_pos h]
    by_cases h2 : (⟨m.part, m.til, m.after⟩ : Kx) = k
    · rw [if_pos ⟨h, h2⟩, cntS, if_pos (show keyS (⟨m.part, m.til, m.after, m.count⟩ : Stock) = k from h2)]; simp [cntS]
    · rw [if_neg (fun h3 => h2 h3.2), cntS, if_neg (show ¬ keyS (⟨m.part, m.til, m.after, m.count⟩ : Stock) = k from h2)]; simp [cntS]
  · rw [if_neg h, if_neg (fun h3 => h h3.1)]; rfl
theorem cnt_opp (m : Movement) (k : Kx) : cntS k (extF m ++ extT m) + cntS k (extF (opp m) ++ extT (opp m)) = 0 := by
  rw [cntS_app, cntS_app, cnt_F, cnt_T, cnt_F, cnt_T]
  show (if m.fro ≠ -1 ∧ (⟨m.part, m.fro, m.before⟩ : Kx) = k then 0 - m.count else 0) + (if m.til ≠ -1 ∧ (⟨m.part, m.til, m.after⟩ : Kx) = k then m.count else 0) + ((if m.til ≠ -1 ∧ (⟨m.part, m.til, m.after⟩ : Kx) = k then 0 - m.count else 0) + (if m.fro ≠ -1 ∧ (⟨m.part, m.fro, m.before⟩ : Kx) = k then m.count else 0)) = 0
  split <;> split <;> omega
/-- A movement and its opposite lead back. -/
theorem move_back {xs : List Stock} {m : Movement} (h : stockE xs = 0) (h2 : (moveR xs m).1 = 0) (h3 : undE m = 0) : moveR (moveR xs m).2 (opp m) = normR xs := by
  obtain ⟨h4, h5, _⟩ := move_parts h h2
  have h6 : mvE (opp m) = 0 := by
    by_cases h7 : mvE (opp m) = 0
    · exact h7
    · rw [(und_2 h4 h7).1] at h3; cases h3
  have hp := (mvE_ok h4).2.2
  have hr := (mvE_ok h4).2.1
  simp only [permP, decide_eq_true_eq] at hp
  have h7 : ¬ lack (moveR xs m).2 (opp m) := by
    rintro ⟨h8, h9⟩
    have h8' : m.til ≠ -1 := h8
    have h9' : cntS ⟨m.part, m.til, m.after⟩ (moveR xs m).2 < m.count := h9
    rw [cnt_move h h2, cntS_app, cnt_F, cnt_T, if_pos (show m.til ≠ -1 ∧ (⟨m.part, m.til, m.after⟩ : Kx) = ⟨m.part, m.til, m.after⟩ from ⟨h8', rfl⟩)] at h9'
    have h10 := cntS_0 (k := ⟨m.part, m.til, m.after⟩) fun x hx => ((stockE_ok h).2 x hx).2.2.1
    by_cases h11 : m.fro ≠ -1 ∧ (⟨m.part, m.fro, m.before⟩ : Kx) = ⟨m.part, m.til, m.after⟩
    · obtain ⟨h12, h13⟩ := h11
      simp only [Shelf.mk.injEq, true_and] at h13
      unfold permQ chQ rpQ at hp
      omega
    · rw [if_neg h11] at h9'; omega
  rw [moveR, if_neg (by simpa using moveR_ok), if_neg (by simpa using h6), if_neg h7, normR, if_pos h]
  refine listS_congr (sum_nodup _) (sum_nodup _) fun k => ?_
  rw [getS_sum0, getS_sum0, cntS_app, cnt_move h h2]
  have := cnt_opp m k
  omega
theorem undE_21 {m : Movement} (h : mvE m = 0) : undE m = 0 ∨ undE m = 21 := by
  by_cases h2 : mvE (opp m) = 0
  · exact .inl (und_3 h h2).1
  · exact .inr (und_2 h h2).1
theorem undM_0 {m : Movement} (h : undE m = 0) : undM m = opp m := if_pos h
theorem norm_8 {xs : List Stock} (h : stockE xs = 0) (h2 : ¬ (normR xs).1 = 0) : (normR xs).1 = 8 := by
  rw [normR, if_pos h] at h2 ⊢
  have key : ∀ (ks : List Kx) (m : Sto) (acc : List Stock), (lstG m acc ks).1 = 0 ∨ (lstG m acc ks).1 = 8 := fun ks m => by
    induction ks with
    | nil => intro acc; exact .inl rfl
    | cons k ks ih => intro acc; unfold lstG; split <;> first | exact .inr rfl | exact ih _
  unfold listS at h2 ⊢
  dsimp only at h2 ⊢
  rcases key (keysS (sumS [] xs)) (sumS [] xs) [] with h3 | h3
  · rw [if_pos h3] at h2 ⊢
    by_cases h4 : 200 < (lstG (sumS [] xs) [] (keysS (sumS [] xs))).2.length
    · rw [if_pos h4]
    · rw [if_neg h4] at h2; exact absurd h3 h2
  · rw [if_neg (by omega)]; exact h3
theorem moveR_err {xs : List Stock} {m : Movement} (h : ¬ (moveR xs m).1 = 0) : (moveR xs m).2 = [] := by
  unfold moveR at h ⊢
  split
  · rfl
  · split
    · rfl
    · split
      · rfl
      · rename_i h1 h2 h3
        rw [if_neg h1, if_neg h2, if_neg h3] at h
        rcases listS_cases (sumS [] (xs ++ (extF m ++ extT m))) with ⟨h4, _⟩ | ⟨_, h4⟩
        · exact absurd h4 h
        · exact h4
theorem mq_t {m : Movement} {p : ByteArray} (h : p = m.part) (h2 : m.til = -1) : moreQ m p = 0 - m.count := if_pos ⟨h, h2⟩
theorem mq_f {m : Movement} {p : ByteArray} (h : p = m.part) (h2 : m.fro = -1) (h3 : ¬ (p = m.part ∧ m.til = -1)) : moreQ m p = m.count := by rw [moreQ, if_neg h3, if_pos ⟨h, h2⟩]
theorem mq_0 {m : Movement} {p : ByteArray} (h2 : ¬ (p = m.part ∧ m.fro = -1)) (h3 : ¬ (p = m.part ∧ m.til = -1)) : moreQ m p = 0 := by rw [moreQ, if_neg h3, if_neg h2]

theorem fr5 : (inFrame Tryd.f5.ntmps (Tryd.f5.body.getD .skip) && Tryd.f5.results.toList.all (resScope Tryd.f5.ntmps)) = true := by kernel_rfl
theorem hconserves (xs : List Stock) (m : Movement) (p : ByteArray) (hlx : xs.length ≤ 9223372036854775807) (hmx : m.part.size ≤ 9223372036854775807) (hpx : p.size ≤ 9223372036854775807) : PCalls Tryd.prog 5 [.lit true 4 (xs.map Stock.enc), .agg m.enc, .str p] (.bool true) := by
  refine PCalls.of_code Tryd.func5 rfl rfl (by kernel_rfl) mixed fr5 (by show _ ≤ 128; simp) (.sc _) ?_
  refine pwp_seq_plain rfl fun K1 hK1 => ?_
  refine p_new rfl (e_box (n := 6) rfl rfl) ⟨rfl, by decide⟩ ?_
  refine p_step rfl (e_assign (v := .sc _) rfl) trivial ?_
  refine p_end (hK1 _ ?_); clear hK1 K1
  refine pwp_seq_seq ?_
  refine pwp_seq_plain rfl fun K2 hK2 => ?_
  refine p_call rfl .nil (awake) ?_
  refine p_step rfl (e_not rfl) trivial ?_
  refine p_end (hK2 _ ?_); clear hK2 K2
  refine pwp_seq_cond (t := false) rfl fun K3 hK3 => ⟨nofun, fun _ => ?_⟩
  refine pwp_skip ?_
  refine seq_norm (hK3 _ ?_); clear hK3 K3
  refine pwp_seq_seq ?_
  refine pwp_seq_gops rfl fun K4 hK4 => ?_
  refine g_begin ?_
  refine g_step rfl rfl rfl rfl (e_move (v := .lit _ _ _) rfl) trivial ?_
  refine g_call rfl rfl rfl rfl (.cons inn_lit .nil) (ShortS _ hlx) ?_
  refine g_step rfl rfl rfl rfl (e_not rfl) trivial ?_
  refine g_step rfl rfl rfl rfl (e_move (v := .sc _) rfl) trivial ?_
  refine g_cases (fun hb5 => ?_) (fun hb5 => ?_)
  ·have hb5R := hb5; simp only [z1, z2, z3, z4, z5, z6, ne_eq, z7, z8, z9, z10, z11, z12] at hb5
   refine g_skip rfl rfl rfl ?_
   refine g_skip rfl rfl rfl ?_
   refine g_skip rfl rfl rfl ?_
   refine g_skip rfl rfl rfl ?_
   refine g_step rfl rfl rfl rfl (e_pickT (v := .sc _) rfl rfl) trivial ?_
   refine g_step rfl rfl rfl rfl (e_move (v := .sc _) rfl) trivial ?_
   refine g_skip rfl rfl rfl ?_
   refine g_skip rfl rfl rfl ?_
   refine g_skip rfl rfl rfl ?_
   refine g_step rfl rfl rfl rfl (e_pickT (v := .sc _) rfl rfl) trivial ?_
   refine g_step rfl rfl rfl rfl (e_move (v := .sc _) rfl) trivial ?_
   refine g_skip rfl rfl rfl ?_
   refine g_nocall rfl rfl rfl ?_
   refine g_skip rfl rfl rfl ?_
   refine g_step rfl rfl rfl rfl (e_pickT (v := .sc _) rfl rfl) trivial ?_
   refine g_end (ds := [23, 24, 25, 26, 29, 30, 31, 34, 35, 36]) rfl rfl (hK4 _ ?_); clear hK4 K4
   refine pwp_seq_cond (t := true) rfl fun K6 hK6 => ⟨fun _ => ?_, nofun⟩
   refine pwp_seq_plain rfl fun K7 hK7 => ?_
   refine p_step rfl (e_assign (v := .sc _) rfl) trivial ?_
   refine p_end (hK7 _ ?_); clear hK7 K7
   refine pwp_ret ?_
   refine ret_seq ?_
   refine end1 (v := .sc _) rfl ?_
   exact out_b rfl
  have hb5R := hb5; simp only [z1, z2, z3, z4, z5, z6, ne_eq, z7, z8, z9, z10, z11, z12] at hb5; have hsh := shortB_iff hb5
  refine g_step rfl rfl rfl rfl (e_faP (pl := [(0, 1, false), (1, 1, false), (2, 1, false), (3, 1, false), (4, 1, false), (5, 1, false)]) rfl (by kernel_rfl) (by kernel_rfl) (by decide) rfl) trivial ?_
  refine g_step rfl rfl rfl rfl (e_loadH (v := .sc _) rfl (hset_self _ _ _) (by kernel_rfl) (by kernel_rfl) (by kernel_rfl) (by exact Nat.zero_lt_one) (by decide) rfl) trivial ?_
  refine g_step rfl rfl rfl rfl (e_lenS rfl (by kernel_rfl)) trivial ?_
  refine g_step rfl rfl rfl rfl (e_gt rfl rfl) trivial ?_
  refine g_step rfl rfl rfl rfl (e_pickF (v := .sc _) rfl rfl) trivial ?_
  refine g_step rfl rfl rfl rfl (e_move (v := .sc _) rfl) trivial ?_
  refine g_cases (fun hb8 => ?_) (fun hb8 => ?_)
  ·have hb8R := hb8; simp only [z1, z2, z3, z4, z5, z6, ne_eq, z7, z8, z9, z10, z11, z12] at hb8
   refine g_skip rfl rfl rfl ?_
   refine g_skip rfl rfl rfl ?_
   refine g_skip rfl rfl rfl ?_
   refine g_step rfl rfl rfl rfl (e_pickT (v := .sc _) rfl rfl) trivial ?_
   refine g_step rfl rfl rfl rfl (e_move (v := .sc _) rfl) trivial ?_
   refine g_skip rfl rfl rfl ?_
   refine g_nocall rfl rfl rfl ?_
   refine g_skip rfl rfl rfl ?_
   refine g_step rfl rfl rfl rfl (e_pickT (v := .sc _) rfl rfl) trivial ?_
   refine g_end (ds := [23, 24, 25, 26, 29, 30, 31, 34, 35, 36]) rfl rfl (hK4 _ ?_); clear hK4 K4
   refine pwp_seq_cond (t := true) rfl fun K9 hK9 => ⟨fun _ => ?_, nofun⟩
   refine pwp_seq_plain rfl fun K10 hK10 => ?_
   refine p_step rfl (e_assign (v := .sc _) rfl) trivial ?_
   refine p_end (hK10 _ ?_); clear hK10 K10
   refine pwp_ret ?_
   refine ret_seq ?_
   refine end1 (v := .sc _) rfl ?_
   exact out_b rfl
  have hb8R := hb8; simp only [z1, z2, z3, z4, z5, z6, ne_eq, z7, z8, z9, z10, z11, z12] at hb8
  refine g_step rfl rfl rfl rfl (e_move (v := .sc _) rfl) trivial ?_
  refine g_step rfl rfl rfl rfl (e_lenS rfl (by kernel_rfl)) trivial ?_
  refine g_step rfl rfl rfl rfl (e_gt rfl rfl) trivial ?_
  refine g_step rfl rfl rfl rfl (e_pickF (v := .sc _) rfl rfl) trivial ?_
  refine g_step rfl rfl rfl rfl (e_move (v := .sc _) rfl) trivial ?_
  refine g_cases (fun hb11 => ?_) (fun hb11 => ?_)
  ·have hb11R := hb11; simp only [z1, z2, z3, z4, z5, z6, ne_eq, z7, z8, z9, z10, z11, z12] at hb11
   refine g_skip rfl rfl rfl ?_
   refine g_nocall rfl rfl rfl ?_
   refine g_skip rfl rfl rfl ?_
   refine g_step rfl rfl rfl rfl (e_pickT (v := .sc _) rfl rfl) trivial ?_
   refine g_end (ds := [23, 24, 25, 26, 29, 30, 31, 34, 35, 36]) rfl rfl (hK4 _ ?_); clear hK4 K4
   refine pwp_seq_cond (t := true) rfl fun K12 hK12 => ⟨fun _ => ?_, nofun⟩
   refine pwp_seq_plain rfl fun K13 hK13 => ?_
   refine p_step rfl (e_assign (v := .sc _) rfl) trivial ?_
   refine p_end (hK13 _ ?_); clear hK13 K13
   refine pwp_ret ?_
   refine ret_seq ?_
   refine end1 (v := .sc _) rfl ?_
   exact out_b rfl
  have hb11R := hb11; simp only [z1, z2, z3, z4, z5, z6, ne_eq, z7, z8, z9, z10, z11, z12] at hb11
  refine g_step rfl rfl rfl rfl (e_move (v := .lit _ _ _) rfl) trivial ?_
  refine g_call rfl rfl rfl rfl (.cons inn_lit .nil) (refCheckS _ hsh.2.1 hsh.2.2) ?_
  refine g_step rfl rfl rfl rfl (e_ne rfl rfl) trivial ?_
  refine g_step rfl rfl rfl rfl (e_pickF (v := .sc _) rfl rfl) trivial ?_
  refine g_end (ds := [23, 24, 25, 26, 29, 30, 31, 34, 35, 36]) rfl rfl (hK4 _ ?_); clear hK4 K4
  refine pwp_seq_cond rfl fun K14 hK14 => ⟨fun hb15 => ?_, fun hb15 => ?_⟩
  ·have hb15R := hb15; simp only [z1, z2, z3, z4, z5, z6, ne_eq, z7, z8, z9, z10, z11, z12] at hb15
   refine pwp_seq_plain rfl fun K16 hK16 => ?_
   refine p_step rfl (e_assign (v := .sc _) rfl) trivial ?_
   refine p_end (hK16 _ ?_); clear hK16 K16
   refine pwp_ret ?_
   refine ret_seq ?_
   refine end1 (v := .sc _) rfl ?_
   exact out_b rfl
  have hb15R := hb15; simp only [z1, z2, z3, z4, z5, z6, ne_eq, z7, z8, z9, z10, z11, z12] at hb15; have hst : stockE xs = 0 := hb15
  refine pwp_skip ?_
  refine seq_norm (hK14 _ ?_); clear hK14 K14
  refine pwp_seq_plain rfl fun K17 hK17 => ?_
  refine p_step rfl (e_move (v := .lit _ _ _) rfl) trivial ?_
  refine p_step rfl (e_loadHA (cs := Movement.enc (m)) (n := 6) rfl (hset_self _ _ _) (by kernel_rfl) (by kernel_rfl) (by kernel_rfl) (by exact Nat.zero_lt_one) (by decide) rfl) trivial ?_
  refine p_call rfl (.cons inn_lit (.cons (inn_agg (Movement.pure (m))) .nil)) (MoveS _ _ hsh.2.1 hsh.2.2 (by omega)) ?_
  refine p_step rfl (e_move (v := .tup _) rfl) trivial ?_
  refine p_step rfl (e_ext (v := .lit _ _ _) rfl (by simp) rfl) trivial ?_
  refine p_step rfl (e_ext (v := .sc _) rfl (by simp) rfl) trivial ?_
  refine p_step rfl (e_assign (v := .lit _ _ _) rfl) trivial ?_
  refine p_step rfl (e_assign (v := .sc _) rfl) trivial ?_
  refine p_end (hK17 _ ?_); clear hK17 K17
  refine pwp_seq_seq ?_
  refine pwp_seq_plain rfl fun K18 hK18 => ?_
  refine p_step rfl (e_move (v := .sc _) rfl) trivial ?_
  refine p_step rfl (e_ne rfl rfl) trivial ?_
  refine p_end (hK18 _ ?_); clear hK18 K18
  refine pwp_seq_cond rfl fun K19 hK19 => ⟨fun hb20 => ?_, fun hb20 => ?_⟩
  ·have hb20R := hb20; simp only [z1, z2, z3, z4, z5, z6, ne_eq, z7, z8, z9, z10, z11, z12] at hb20; have hme := moveR_err hb20
   refine pwp_seq_plain rfl fun K21 hK21 => ?_
   refine p_step rfl (e_move (v := .lit _ _ _) rfl) trivial ?_
   refine p_step rfl (e_len rfl (by kernel_rfl)) trivial ?_
   refine p_step rfl (e_eq rfl rfl) trivial ?_
   refine p_step rfl (e_assign (v := .sc _) rfl) trivial ?_
   refine p_end (hK21 _ ?_); clear hK21 K21
   refine pwp_ret ?_
   refine ret_seq ?_
   refine end1 (v := .sc _) rfl ?_
   (refine out_b ?_; simp [hme]; done)
  have hb20R := hb20; simp only [z1, z2, z3, z4, z5, z6, ne_eq, z7, z8, z9, z10, z11, z12] at hb20; have hm0 : (moveR xs m).1 = 0 := hb20; have htm := tot_move (p := p) hst hm0; have hmv := mvE_cnt (move_parts hst hm0).1; have hun := undE_21 (move_parts hst hm0).1; have hb1 := totW_bd (xs := xs) (p := p); have hb2 := totW_bd (xs := (moveR xs m).2) (p := p)
  refine pwp_skip ?_
  refine seq_norm (hK19 _ ?_); clear hK19 K19
  refine pwp_seq_plain rfl fun K22 hK22 => ?_
  refine p_step rfl (e_move (v := .lit _ _ _) rfl) trivial ?_
  refine p_step rfl (e_move (v := .sc _) rfl) trivial ?_
  refine p_call rfl (.cons inn_lit (.cons inn_sc .nil)) (TotalS _ _ hsh.2.1 hsh.2.2) ?_
  refine p_step rfl (e_move (v := .tup _) rfl) trivial ?_
  refine p_step rfl (e_ext (v := .sc _) rfl (by simp) rfl) trivial ?_
  refine p_step rfl (e_ext (v := .sc _) rfl (by simp) rfl) trivial ?_
  refine p_step rfl (e_assign (v := .sc _) rfl) trivial ?_
  refine p_step rfl (e_assign (v := .sc _) rfl) trivial ?_
  refine p_end (hK22 _ ?_); clear hK22 K22
  refine pwp_seq_plain rfl fun K23 hK23 => ?_
  refine p_step rfl (e_move (v := .lit _ _ _) rfl) trivial ?_
  refine p_step rfl (e_move (v := .sc _) rfl) trivial ?_
  refine p_call rfl (.cons inn_lit (.cons inn_sc .nil)) (TotalS _ _ (Nat.le_trans (moveR_len xs m) (by decide)) (moveR_part hsh.2.2 (by omega))) ?_
  refine p_step rfl (e_move (v := .tup _) rfl) trivial ?_
  refine p_step rfl (e_ext (v := .sc _) rfl (by simp) rfl) trivial ?_
  refine p_step rfl (e_ext (v := .sc _) rfl (by simp) rfl) trivial ?_
  refine p_step rfl (e_assign (v := .sc _) rfl) trivial ?_
  refine p_step rfl (e_assign (v := .sc _) rfl) trivial ?_
  refine p_end (hK23 _ ?_); clear hK23 K23
  refine pwp_seq_plain rfl fun K24 hK24 => ?_
  refine p_step rfl (e_assign (v := .sc _) rfl) trivial ?_
  refine p_end (hK24 _ ?_); clear hK24 K24
  refine pwp_seq_seq ?_
  refine pwp_seq_gops rfl fun K25 hK25 => ?_
  refine g_begin ?_
  refine g_step rfl rfl rfl rfl (e_move (v := .sc _) rfl) trivial ?_
  refine g_step rfl rfl rfl rfl (e_faP (pl := [(0, 1, false), (1, 1, false), (2, 1, false), (3, 1, false), (4, 1, false), (5, 1, false)]) rfl (by kernel_rfl) (by kernel_rfl) (by decide) rfl) trivial ?_
  refine g_step rfl rfl rfl rfl (e_loadH (v := .sc _) rfl (hset_self _ _ _) (by kernel_rfl) (by kernel_rfl) (by kernel_rfl) (by exact Nat.zero_lt_one) (by decide) rfl) trivial ?_
  refine g_step rfl rfl rfl rfl (e_seq rfl rfl) trivial ?_
  refine g_step rfl rfl rfl rfl (e_move (v := .sc _) rfl) trivial ?_
  refine g_cases (fun hb26 => ?_) (fun hb26 => ?_)
  ·have hb26R := hb26; simp only [z1, z2, z3, z4, z5, z6, ne_eq, z7, z8, z9, z10, z11, z12] at hb26
   refine g_step rfl rfl rfl rfl (e_faP (pl := [(0, 1, false), (1, 1, false), (2, 1, false), (3, 1, false), (4, 1, false), (5, 1, false)]) rfl (by kernel_rfl) (by kernel_rfl) (by decide) rfl) trivial ?_
   refine g_step rfl rfl rfl rfl (e_loadH (v := .sc _) rfl (hset_self _ _ _) (by kernel_rfl) (by kernel_rfl) (by kernel_rfl) (by exact Nat.zero_lt_one) (by decide) rfl) trivial ?_
   refine g_step rfl rfl rfl rfl (e_eq rfl rfl) trivial ?_
   refine g_step rfl rfl rfl rfl (e_pickT (v := .sc _) rfl rfl) trivial ?_
   refine g_end (ds := [66, 67, 68]) rfl rfl (hK25 _ ?_); clear hK25 K25
   refine pwp_seq_cond rfl fun K27 hK27 => ⟨fun hb28 => ?_, fun hb28 => ?_⟩
   ·have hb28R := hb28; simp only [z1, z2, z3, z4, z5, z6, ne_eq, z7, z8, z9, z10, z11, z12] at hb28
    refine pwp_plain rfl fun K29 hK29 => ?_
    refine p_step rfl (e_faP (pl := [(0, 1, false), (1, 1, false), (2, 1, false), (3, 1, false), (4, 1, false), (5, 1, false)]) rfl (by kernel_rfl) (by kernel_rfl) (by decide) rfl) trivial ?_
    refine p_step rfl (e_loadH (v := .sc _) rfl (hset_self _ _ _) (by kernel_rfl) (by kernel_rfl) (by kernel_rfl) (by exact Nat.zero_lt_one) (by decide) rfl) trivial ?_
    refine p_step rfl (e_assign (v := .sc _) rfl) trivial ?_
    refine p_end (hK29 _ ?_); clear hK29 K29
    refine seq_norm (hK27 _ ?_); clear hK27 K27
    refine pwp_seq_seq ?_
    refine pwp_seq_gops rfl fun K30 hK30 => ?_
    refine g_begin ?_
    refine g_step rfl rfl rfl rfl (e_move (v := .sc _) rfl) trivial ?_
    refine g_step rfl rfl rfl rfl (e_faP (pl := [(0, 1, false), (1, 1, false), (2, 1, false), (3, 1, false), (4, 1, false), (5, 1, false)]) rfl (by kernel_rfl) (by kernel_rfl) (by decide) rfl) trivial ?_
    refine g_step rfl rfl rfl rfl (e_loadH (v := .sc _) rfl (hset_self _ _ _) (by kernel_rfl) (by kernel_rfl) (by kernel_rfl) (by exact Nat.zero_lt_one) (by decide) rfl) trivial ?_
    refine g_step rfl rfl rfl rfl (e_seq rfl rfl) trivial ?_
    refine g_step rfl rfl rfl rfl (e_move (v := .sc _) rfl) trivial ?_
    refine g_cases (fun hb31 => ?_) (fun hb31 => ?_)
    ·have hb31R := hb31; simp only [z1, z2, z3, z4, z5, z6, ne_eq, z7, z8, z9, z10, z11, z12] at hb31
     refine g_step rfl rfl rfl rfl (e_faP (pl := [(0, 1, false), (1, 1, false), (2, 1, false), (3, 1, false), (4, 1, false), (5, 1, false)]) rfl (by kernel_rfl) (by kernel_rfl) (by decide) rfl) trivial ?_
     refine g_step rfl rfl rfl rfl (e_loadH (v := .sc _) rfl (hset_self _ _ _) (by kernel_rfl) (by kernel_rfl) (by kernel_rfl) (by exact Nat.zero_lt_one) (by decide) rfl) trivial ?_
     refine g_step rfl rfl rfl rfl (e_eq rfl rfl) trivial ?_
     refine g_step rfl rfl rfl rfl (e_pickT (v := .sc _) rfl rfl) trivial ?_
     refine g_end (ds := [77, 78, 79]) rfl rfl (hK30 _ ?_); clear hK30 K30
     refine pwp_seq_cond rfl fun K32 hK32 => ⟨fun hb33 => ?_, fun hb33 => ?_⟩
     ·have hb33R := hb33; simp only [z1, z2, z3, z4, z5, z6, ne_eq, z7, z8, z9, z10, z11, z12] at hb33
      refine pwp_plain rfl fun K34 hK34 => ?_
      refine p_step rfl (e_faP (pl := [(0, 1, false), (1, 1, false), (2, 1, false), (3, 1, false), (4, 1, false), (5, 1, false)]) rfl (by kernel_rfl) (by kernel_rfl) (by decide) rfl) trivial ?_
      refine p_step rfl (e_loadH (v := .sc _) rfl (hset_self _ _ _) (by kernel_rfl) (by kernel_rfl) (by kernel_rfl) (by exact Nat.zero_lt_one) (by decide) rfl) trivial ?_
      refine p_step rfl (e_neg rfl (by omega)) trivial ?_
      refine p_step rfl (e_assign (v := .sc _) rfl) trivial ?_
      refine p_end (hK34 _ ?_); clear hK34 K34
      refine seq_norm (hK32 _ ?_); clear hK32 K32
      refine pwp_seq_seq ?_
      refine pwp_seq_gops rfl fun K35 hK35 => ?_
      refine g_begin ?_
      refine g_step rfl rfl rfl rfl (e_move (v := .sc _) rfl) trivial ?_
      refine g_step rfl rfl rfl rfl (e_ne rfl rfl) trivial ?_
      refine g_step rfl rfl rfl rfl (e_move (v := .sc _) rfl) trivial ?_
      refine g_cases (fun hb36 => ?_) (fun hb36 => ?_)
      ·have hb36R := hb36; simp only [z1, z2, z3, z4, z5, z6, ne_eq, z7, z8, z9, z10, z11, z12] at hb36
       refine g_skip rfl rfl rfl ?_
       refine g_skip rfl rfl rfl ?_
       refine g_step rfl rfl rfl rfl (e_pickT (v := .sc _) rfl rfl) trivial ?_
       refine g_step rfl rfl rfl rfl (e_move (v := .sc _) rfl) trivial ?_
       refine g_skip rfl rfl rfl ?_
       refine g_skip rfl rfl rfl ?_
       refine g_skip rfl rfl rfl ?_
       refine g_skip rfl rfl rfl ?_
       refine g_skip rfl rfl rfl ?_
       refine g_step rfl rfl rfl rfl (e_pickT (v := .sc _) rfl rfl) trivial ?_
       refine g_end (ds := [87, 88, 91, 92, 93, 94, 95]) rfl rfl (hK35 _ ?_); clear hK35 K35
       refine pwp_seq_cond (t := true) rfl fun K37 hK37 => ⟨fun _ => ?_, nofun⟩
       refine pwp_seq_plain rfl fun K38 hK38 => ?_
       refine p_step rfl (e_assign (v := .sc _) rfl) trivial ?_
       refine p_end (hK38 _ ?_); clear hK38 K38
       refine pwp_ret ?_
       refine ret_seq ?_
       refine end1 (v := .sc _) rfl ?_
       (exfalso; omega)
      have hb36R := hb36; simp only [z1, z2, z3, z4, z5, z6, ne_eq, z7, z8, z9, z10, z11, z12] at hb36; have hst : stockE xs = 0 := hb36
      refine g_step rfl rfl rfl rfl (e_move (v := .sc _) rfl) trivial ?_
      refine g_step rfl rfl rfl rfl (e_ne rfl rfl) trivial ?_
      refine g_step rfl rfl rfl rfl (e_pickF (v := .sc _) rfl rfl) trivial ?_
      refine g_step rfl rfl rfl rfl (e_move (v := .sc _) rfl) trivial ?_
      refine g_cases (fun hb39 => ?_) (fun hb39 => ?_)
      ·have hb39R := hb39; simp only [z1, z2, z3, z4, z5, z6, ne_eq, z7, z8, z9, z10, z11, z12] at hb39
       refine g_skip rfl rfl rfl ?_
       refine g_skip rfl rfl rfl ?_
       refine g_skip rfl rfl rfl ?_
       refine g_skip rfl rfl rfl ?_
       refine g_skip rfl rfl rfl ?_
       refine g_step rfl rfl rfl rfl (e_pickT (v := .sc _) rfl rfl) trivial ?_
       refine g_end (ds := [87, 88, 91, 92, 93, 94, 95]) rfl rfl (hK35 _ ?_); clear hK35 K35
       refine pwp_seq_cond (t := true) rfl fun K40 hK40 => ⟨fun _ => ?_, nofun⟩
       refine pwp_seq_plain rfl fun K41 hK41 => ?_
       refine p_step rfl (e_assign (v := .sc _) rfl) trivial ?_
       refine p_end (hK41 _ ?_); clear hK41 K41
       refine pwp_ret ?_
       refine ret_seq ?_
       refine end1 (v := .sc _) rfl ?_
       (exfalso; rw [moveR_ok] at *; omega)
      have hb39R := hb39; simp only [z1, z2, z3, z4, z5, z6, ne_eq, z7, z8, z9, z10, z11, z12] at hb39
      refine g_step rfl rfl rfl rfl (e_move (v := .sc _) rfl) trivial ?_
      refine g_step rfl rfl rfl rfl (e_move (v := .sc _) rfl) trivial ?_
      refine g_step rfl rfl rfl rfl (e_move (v := .sc _) rfl) trivial ?_
      refine g_step rfl rfl rfl rfl (e_add rfl rfl (by omega)) trivial ?_
      refine g_step rfl rfl rfl rfl (e_ne rfl rfl) trivial ?_
      refine g_step rfl rfl rfl rfl (e_pickF (v := .sc _) rfl rfl) trivial ?_
      refine g_end (ds := [87, 88, 91, 92, 93, 94, 95]) rfl rfl (hK35 _ ?_); clear hK35 K35
      refine pwp_seq_cond rfl fun K42 hK42 => ⟨fun hb43 => ?_, fun hb43 => ?_⟩
      ·have hb43R := hb43; simp only [z1, z2, z3, z4, z5, z6, ne_eq, z7, z8, z9, z10, z11, z12] at hb43
       refine pwp_seq_plain rfl fun K44 hK44 => ?_
       refine p_step rfl (e_assign (v := .sc _) rfl) trivial ?_
       refine p_end (hK44 _ ?_); clear hK44 K44
       refine pwp_ret ?_
       refine ret_seq ?_
       refine end1 (v := .sc _) rfl ?_
       (exfalso; have h9 := mq_t (m := m) (p := p) (by assumption) (by assumption); omega)
      have hb43R := hb43; simp only [z1, z2, z3, z4, z5, z6, ne_eq, z7, z8, z9, z10, z11, z12] at hb43
      refine pwp_skip ?_
      refine seq_norm (hK42 _ ?_); clear hK42 K42
      refine pwp_seq_plain rfl fun K45 hK45 => ?_
      refine p_step rfl (e_loadHA (cs := Movement.enc (m)) (n := 6) rfl (hset_self _ _ _) (by kernel_rfl) (by kernel_rfl) (by kernel_rfl) (by exact Nat.zero_lt_one) (by decide) rfl) trivial ?_
      refine p_call rfl (.cons (inn_agg (Movement.pure (m))) .nil) (Undo _ (by omega)) ?_
      refine p_step rfl (e_move (v := .tup _) rfl) trivial ?_
      refine p_step rfl (e_ext (v := .agg _) rfl (by simp) rfl) trivial ?_
      refine p_step rfl (e_ext (v := .sc _) rfl (by simp) rfl) trivial ?_
      refine p_new rfl (e_alloc (cs := [.str ByteArray.empty, .int 0, .int 0, .int 0, .int 0, .int 0]) (n := 6) (by kernel_rfl) rfl (by decide)) (ob_alloc (by decide)) ?_
      refine p_store rfl (e_storeA rfl (hset_self _ _ _) rfl rfl rfl (by kernel_rfl) rfl (by kernel_rfl)) trivial ?_
      refine p_step rfl (e_assign (v := .sc _) rfl) trivial ?_
      refine p_end (hK45 _ ?_); clear hK45 K45
      refine pwp_seq_seq ?_
      refine pwp_seq_plain rfl fun K46 hK46 => ?_
      refine p_step rfl (e_move (v := .sc _) rfl) trivial ?_
      refine p_step rfl (e_ne rfl rfl) trivial ?_
      refine p_end (hK46 _ ?_); clear hK46 K46
      refine pwp_seq_cond rfl fun K47 hK47 => ⟨fun hb48 => ?_, fun hb48 => ?_⟩
      ·have hb48R := hb48; simp only [z1, z2, z3, z4, z5, z6, ne_eq, z7, z8, z9, z10, z11, z12] at hb48
       refine pwp_seq_plain rfl fun K49 hK49 => ?_
       refine p_step rfl (e_move (v := .sc _) rfl) trivial ?_
       refine p_step rfl (e_eq rfl rfl) trivial ?_
       refine p_step rfl (e_assign (v := .sc _) rfl) trivial ?_
       refine p_end (hK49 _ ?_); clear hK49 K49
       refine pwp_ret ?_
       refine ret_seq ?_
       refine end1 (v := .sc _) rfl ?_
       (refine out_b ?_; have h9 := hun.resolve_left (by assumption); simp [h9]; done)
      have hb48R := hb48; simp only [z1, z2, z3, z4, z5, z6, ne_eq, z7, z8, z9, z10, z11, z12] at hb48; have hu0 : undE m = 0 := hb48; have hback : moveR (moveR xs m).2 (undM m) = normR xs := by rw [undM_0 hu0]; exact move_back hst hm0 hu0
      refine pwp_skip ?_
      refine seq_norm (hK47 _ ?_); clear hK47 K47
      refine pwp_seq_plain rfl fun K50 hK50 => ?_
      refine p_step rfl (e_move (v := .lit _ _ _) rfl) trivial ?_
      refine p_step rfl (e_loadHA (cs := Movement.enc ((undM m))) (n := 6) rfl (hset_self _ _ _) (by kernel_rfl) (by kernel_rfl) (by kernel_rfl) (by exact Nat.zero_lt_one) (by decide) rfl) trivial ?_
      refine p_call rfl (.cons inn_lit (.cons (inn_agg (Movement.pure ((undM m)))) .nil)) (MoveS _ _ (Nat.le_trans (moveR_len xs m) (by decide)) (moveR_part hsh.2.2 (by omega)) (by rw [undM_0 (by omega)]; exact msz (by omega))) ?_
      refine p_step rfl (e_move (v := .tup _) rfl) trivial ?_
      refine p_step rfl (e_ext (v := .lit _ _ _) rfl (by simp) rfl) trivial ?_
      refine p_step rfl (e_ext (v := .sc _) rfl (by simp) rfl) trivial ?_
      refine p_step rfl (e_assign (v := .lit _ _ _) rfl) trivial ?_
      refine p_step rfl (e_assign (v := .sc _) rfl) trivial ?_
      refine p_end (hK50 _ ?_); clear hK50 K50
      refine pwp_seq_plain rfl fun K51 hK51 => ?_
      refine p_step rfl (e_move (v := .lit _ _ _) rfl) trivial ?_
      refine p_call rfl (.cons inn_lit .nil) (NormalS _ hsh.2.1 hsh.2.2) ?_
      refine p_step rfl (e_move (v := .tup _) rfl) trivial ?_
      refine p_step rfl (e_ext (v := .lit _ _ _) rfl (by simp) rfl) trivial ?_
      refine p_step rfl (e_ext (v := .sc _) rfl (by simp) rfl) trivial ?_
      refine p_step rfl (e_assign (v := .lit _ _ _) rfl) trivial ?_
      refine p_step rfl (e_assign (v := .sc _) rfl) trivial ?_
      refine p_end (hK51 _ ?_); clear hK51 K51
      refine pwp_seq_seq ?_
      refine pwp_seq_plain rfl fun K52 hK52 => ?_
      refine p_step rfl (e_move (v := .sc _) rfl) trivial ?_
      refine p_step rfl (e_ne rfl rfl) trivial ?_
      refine p_end (hK52 _ ?_); clear hK52 K52
      refine pwp_seq_cond rfl fun K53 hK53 => ⟨fun hb54 => ?_, fun hb54 => ?_⟩
      ·have hb54R := hb54; simp only [z1, z2, z3, z4, z5, z6, ne_eq, z7, z8, z9, z10, z11, z12] at hb54
       refine pwp_seq_plain rfl fun K55 hK55 => ?_
       refine p_step rfl (e_move (v := .sc _) rfl) trivial ?_
       refine p_step rfl (e_eq rfl rfl) trivial ?_
       refine p_step rfl (e_assign (v := .sc _) rfl) trivial ?_
       refine p_end (hK55 _ ?_); clear hK55 K55
       refine pwp_ret ?_
       refine ret_seq ?_
       refine end1 (v := .sc _) rfl ?_
       (refine out_b ?_; simp [norm_8 hst (by assumption)]; done)
      have hb54R := hb54; simp only [z1, z2, z3, z4, z5, z6, ne_eq, z7, z8, z9, z10, z11, z12] at hb54
      refine pwp_skip ?_
      refine seq_norm (hK53 _ ?_); clear hK53 K53
      refine pwp_seq_gops rfl fun K56 hK56 => ?_
      refine g_begin ?_
      refine g_step rfl rfl rfl rfl (e_move (v := .sc _) rfl) trivial ?_
      refine g_step rfl rfl rfl rfl (e_eq rfl rfl) trivial ?_
      refine g_step rfl rfl rfl rfl (e_move (v := .sc _) rfl) trivial ?_
      refine g_cases (fun hb57 => ?_) (fun hb57 => ?_)
      ·have hb57R := hb57; simp only [z1, z2, z3, z4, z5, z6, ne_eq, z7, z8, z9, z10, z11, z12] at hb57
       refine g_step rfl rfl rfl rfl (e_move (v := .lit _ _ _) rfl) trivial ?_
       refine g_step rfl rfl rfl rfl (e_move (v := .lit _ _ _) rfl) trivial ?_
       refine g_call rfl rfl rfl rfl (.cons inn_lit (.cons inn_lit .nil)) (SameStock _ _ (Nat.le_trans (moveR_len _ _) (by decide))) ?_
       refine g_step rfl rfl rfl rfl (e_pickT (v := .sc _) rfl rfl) trivial ?_
       refine g_step rfl rfl rfl rfl (e_assign (v := .sc _) rfl) trivial ?_
       refine g_end (ds := [124, 125, 126]) rfl rfl (hK56 _ ?_); clear hK56 K56
       refine pwp_ret ?_
       refine end1 (v := .sc _) rfl ?_
       (refine out_b ?_; rw [hback]; simp; done)
      have hb57R := hb57; simp only [z1, z2, z3, z4, z5, z6, ne_eq, z7, z8, z9, z10, z11, z12] at hb57; have hme := moveR_err hb57
      refine g_skip rfl rfl rfl ?_
      refine g_skip rfl rfl rfl ?_
      refine g_nocall rfl rfl rfl ?_
      refine g_step rfl rfl rfl rfl (e_pickF (v := .sc _) rfl rfl) trivial ?_
      refine g_step rfl rfl rfl rfl (e_assign (v := .sc _) rfl) trivial ?_
      refine g_end (ds := [124, 125, 126]) rfl rfl (hK56 _ ?_); clear hK56 K56
      refine pwp_ret ?_
      refine end1 (v := .sc _) rfl ?_
      (exfalso; have h9 : (moveR (moveR xs m).2 (undM m)).1 = (normR xs).1 := congrArg Prod.fst hback; omega)
     have hb33R := hb33; simp only [z1, z2, z3, z4, z5, z6, ne_eq, z7, z8, z9, z10, z11, z12] at hb33
     refine pwp_skip ?_
     refine seq_norm (hK32 _ ?_); clear hK32 K32
     refine pwp_seq_seq ?_
     refine pwp_seq_gops rfl fun K58 hK58 => ?_
     refine g_begin ?_
     refine g_step rfl rfl rfl rfl (e_move (v := .sc _) rfl) trivial ?_
     refine g_step rfl rfl rfl rfl (e_ne rfl rfl) trivial ?_
     refine g_step rfl rfl rfl rfl (e_move (v := .sc _) rfl) trivial ?_
     refine g_cases (fun hb59 => ?_) (fun hb59 => ?_)
     ·have hb59R := hb59; simp only [z1, z2, z3, z4, z5, z6, ne_eq, z7, z8, z9, z10, z11, z12] at hb59
      refine g_skip rfl rfl rfl ?_
      refine g_skip rfl rfl rfl ?_
      refine g_step rfl rfl rfl rfl (e_pickT (v := .sc _) rfl rfl) trivial ?_
      refine g_step rfl rfl rfl rfl (e_move (v := .sc _) rfl) trivial ?_
      refine g_skip rfl rfl rfl ?_
      refine g_skip rfl rfl rfl ?_
      refine g_skip rfl rfl rfl ?_
      refine g_skip rfl rfl rfl ?_
      refine g_skip rfl rfl rfl ?_
      refine g_step rfl rfl rfl rfl (e_pickT (v := .sc _) rfl rfl) trivial ?_
      refine g_end (ds := [87, 88, 91, 92, 93, 94, 95]) rfl rfl (hK58 _ ?_); clear hK58 K58
      refine pwp_seq_cond (t := true) rfl fun K60 hK60 => ⟨fun _ => ?_, nofun⟩
      refine pwp_seq_plain rfl fun K61 hK61 => ?_
      refine p_step rfl (e_assign (v := .sc _) rfl) trivial ?_
      refine p_end (hK61 _ ?_); clear hK61 K61
      refine pwp_ret ?_
      refine ret_seq ?_
      refine end1 (v := .sc _) rfl ?_
      (exfalso; omega)
     have hb59R := hb59; simp only [z1, z2, z3, z4, z5, z6, ne_eq, z7, z8, z9, z10, z11, z12] at hb59; have hst : stockE xs = 0 := hb59
     refine g_step rfl rfl rfl rfl (e_move (v := .sc _) rfl) trivial ?_
     refine g_step rfl rfl rfl rfl (e_ne rfl rfl) trivial ?_
     refine g_step rfl rfl rfl rfl (e_pickF (v := .sc _) rfl rfl) trivial ?_
     refine g_step rfl rfl rfl rfl (e_move (v := .sc _) rfl) trivial ?_
     refine g_cases (fun hb62 => ?_) (fun hb62 => ?_)
     ·have hb62R := hb62; simp only [z1, z2, z3, z4, z5, z6, ne_eq, z7, z8, z9, z10, z11, z12] at hb62
      refine g_skip rfl rfl rfl ?_
      refine g_skip rfl rfl rfl ?_
      refine g_skip rfl rfl rfl ?_
      refine g_skip rfl rfl rfl ?_
      refine g_skip rfl rfl rfl ?_
      refine g_step rfl rfl rfl rfl (e_pickT (v := .sc _) rfl rfl) trivial ?_
      refine g_end (ds := [87, 88, 91, 92, 93, 94, 95]) rfl rfl (hK58 _ ?_); clear hK58 K58
      refine pwp_seq_cond (t := true) rfl fun K63 hK63 => ⟨fun _ => ?_, nofun⟩
      refine pwp_seq_plain rfl fun K64 hK64 => ?_
      refine p_step rfl (e_assign (v := .sc _) rfl) trivial ?_
      refine p_end (hK64 _ ?_); clear hK64 K64
      refine pwp_ret ?_
      refine ret_seq ?_
      refine end1 (v := .sc _) rfl ?_
      (exfalso; rw [moveR_ok] at *; omega)
     have hb62R := hb62; simp only [z1, z2, z3, z4, z5, z6, ne_eq, z7, z8, z9, z10, z11, z12] at hb62
     refine g_step rfl rfl rfl rfl (e_move (v := .sc _) rfl) trivial ?_
     refine g_step rfl rfl rfl rfl (e_move (v := .sc _) rfl) trivial ?_
     refine g_step rfl rfl rfl rfl (e_move (v := .sc _) rfl) trivial ?_
     refine g_step rfl rfl rfl rfl (e_add rfl rfl (by omega)) trivial ?_
     refine g_step rfl rfl rfl rfl (e_ne rfl rfl) trivial ?_
     refine g_step rfl rfl rfl rfl (e_pickF (v := .sc _) rfl rfl) trivial ?_
     refine g_end (ds := [87, 88, 91, 92, 93, 94, 95]) rfl rfl (hK58 _ ?_); clear hK58 K58
     refine pwp_seq_cond rfl fun K65 hK65 => ⟨fun hb66 => ?_, fun hb66 => ?_⟩
     ·have hb66R := hb66; simp only [z1, z2, z3, z4, z5, z6, ne_eq, z7, z8, z9, z10, z11, z12] at hb66
      refine pwp_seq_plain rfl fun K67 hK67 => ?_
      refine p_step rfl (e_assign (v := .sc _) rfl) trivial ?_
      refine p_end (hK67 _ ?_); clear hK67 K67
      refine pwp_ret ?_
      refine ret_seq ?_
      refine end1 (v := .sc _) rfl ?_
      (exfalso; have h9 := mq_f (m := m) (p := p) (by assumption) (by assumption) (by intro h8; have h9 := h8.1; have h10 := h8.2; first | omega | contradiction); omega)
     have hb66R := hb66; simp only [z1, z2, z3, z4, z5, z6, ne_eq, z7, z8, z9, z10, z11, z12] at hb66
     refine pwp_skip ?_
     refine seq_norm (hK65 _ ?_); clear hK65 K65
     refine pwp_seq_plain rfl fun K68 hK68 => ?_
     refine p_step rfl (e_loadHA (cs := Movement.enc (m)) (n := 6) rfl (hset_self _ _ _) (by kernel_rfl) (by kernel_rfl) (by kernel_rfl) (by exact Nat.zero_lt_one) (by decide) rfl) trivial ?_
     refine p_call rfl (.cons (inn_agg (Movement.pure (m))) .nil) (Undo _ (by omega)) ?_
     refine p_step rfl (e_move (v := .tup _) rfl) trivial ?_
     refine p_step rfl (e_ext (v := .agg _) rfl (by simp) rfl) trivial ?_
     refine p_step rfl (e_ext (v := .sc _) rfl (by simp) rfl) trivial ?_
     refine p_new rfl (e_alloc (cs := [.str ByteArray.empty, .int 0, .int 0, .int 0, .int 0, .int 0]) (n := 6) (by kernel_rfl) rfl (by decide)) (ob_alloc (by decide)) ?_
     refine p_store rfl (e_storeA rfl (hset_self _ _ _) rfl rfl rfl (by kernel_rfl) rfl (by kernel_rfl)) trivial ?_
     refine p_step rfl (e_assign (v := .sc _) rfl) trivial ?_
     refine p_end (hK68 _ ?_); clear hK68 K68
     refine pwp_seq_seq ?_
     refine pwp_seq_plain rfl fun K69 hK69 => ?_
     refine p_step rfl (e_move (v := .sc _) rfl) trivial ?_
     refine p_step rfl (e_ne rfl rfl) trivial ?_
     refine p_end (hK69 _ ?_); clear hK69 K69
     refine pwp_seq_cond rfl fun K70 hK70 => ⟨fun hb71 => ?_, fun hb71 => ?_⟩
     ·have hb71R := hb71; simp only [z1, z2, z3, z4, z5, z6, ne_eq, z7, z8, z9, z10, z11, z12] at hb71
      refine pwp_seq_plain rfl fun K72 hK72 => ?_
      refine p_step rfl (e_move (v := .sc _) rfl) trivial ?_
      refine p_step rfl (e_eq rfl rfl) trivial ?_
      refine p_step rfl (e_assign (v := .sc _) rfl) trivial ?_
      refine p_end (hK72 _ ?_); clear hK72 K72
      refine pwp_ret ?_
      refine ret_seq ?_
      refine end1 (v := .sc _) rfl ?_
      (refine out_b ?_; have h9 := hun.resolve_left (by assumption); simp [h9]; done)
     have hb71R := hb71; simp only [z1, z2, z3, z4, z5, z6, ne_eq, z7, z8, z9, z10, z11, z12] at hb71; have hu0 : undE m = 0 := hb71; have hback : moveR (moveR xs m).2 (undM m) = normR xs := by rw [undM_0 hu0]; exact move_back hst hm0 hu0
     refine pwp_skip ?_
     refine seq_norm (hK70 _ ?_); clear hK70 K70
     refine pwp_seq_plain rfl fun K73 hK73 => ?_
     refine p_step rfl (e_move (v := .lit _ _ _) rfl) trivial ?_
     refine p_step rfl (e_loadHA (cs := Movement.enc ((undM m))) (n := 6) rfl (hset_self _ _ _) (by kernel_rfl) (by kernel_rfl) (by kernel_rfl) (by exact Nat.zero_lt_one) (by decide) rfl) trivial ?_
     refine p_call rfl (.cons inn_lit (.cons (inn_agg (Movement.pure ((undM m)))) .nil)) (MoveS _ _ (Nat.le_trans (moveR_len xs m) (by decide)) (moveR_part hsh.2.2 (by omega)) (by rw [undM_0 (by omega)]; exact msz (by omega))) ?_
     refine p_step rfl (e_move (v := .tup _) rfl) trivial ?_
     refine p_step rfl (e_ext (v := .lit _ _ _) rfl (by simp) rfl) trivial ?_
     refine p_step rfl (e_ext (v := .sc _) rfl (by simp) rfl) trivial ?_
     refine p_step rfl (e_assign (v := .lit _ _ _) rfl) trivial ?_
     refine p_step rfl (e_assign (v := .sc _) rfl) trivial ?_
     refine p_end (hK73 _ ?_); clear hK73 K73
     refine pwp_seq_plain rfl fun K74 hK74 => ?_
     refine p_step rfl (e_move (v := .lit _ _ _) rfl) trivial ?_
     refine p_call rfl (.cons inn_lit .nil) (NormalS _ hsh.2.1 hsh.2.2) ?_
     refine p_step rfl (e_move (v := .tup _) rfl) trivial ?_
     refine p_step rfl (e_ext (v := .lit _ _ _) rfl (by simp) rfl) trivial ?_
     refine p_step rfl (e_ext (v := .sc _) rfl (by simp) rfl) trivial ?_
     refine p_step rfl (e_assign (v := .lit _ _ _) rfl) trivial ?_
     refine p_step rfl (e_assign (v := .sc _) rfl) trivial ?_
     refine p_end (hK74 _ ?_); clear hK74 K74
     refine pwp_seq_seq ?_
     refine pwp_seq_plain rfl fun K75 hK75 => ?_
     refine p_step rfl (e_move (v := .sc _) rfl) trivial ?_
     refine p_step rfl (e_ne rfl rfl) trivial ?_
     refine p_end (hK75 _ ?_); clear hK75 K75
     refine pwp_seq_cond rfl fun K76 hK76 => ⟨fun hb77 => ?_, fun hb77 => ?_⟩
     ·have hb77R := hb77; simp only [z1, z2, z3, z4, z5, z6, ne_eq, z7, z8, z9, z10, z11, z12] at hb77
      refine pwp_seq_plain rfl fun K78 hK78 => ?_
      refine p_step rfl (e_move (v := .sc _) rfl) trivial ?_
      refine p_step rfl (e_eq rfl rfl) trivial ?_
      refine p_step rfl (e_assign (v := .sc _) rfl) trivial ?_
      refine p_end (hK78 _ ?_); clear hK78 K78
      refine pwp_ret ?_
      refine ret_seq ?_
      refine end1 (v := .sc _) rfl ?_
      (refine out_b ?_; simp [norm_8 hst (by assumption)]; done)
     have hb77R := hb77; simp only [z1, z2, z3, z4, z5, z6, ne_eq, z7, z8, z9, z10, z11, z12] at hb77
     refine pwp_skip ?_
     refine seq_norm (hK76 _ ?_); clear hK76 K76
     refine pwp_seq_gops rfl fun K79 hK79 => ?_
     refine g_begin ?_
     refine g_step rfl rfl rfl rfl (e_move (v := .sc _) rfl) trivial ?_
     refine g_step rfl rfl rfl rfl (e_eq rfl rfl) trivial ?_
     refine g_step rfl rfl rfl rfl (e_move (v := .sc _) rfl) trivial ?_
     refine g_cases (fun hb80 => ?_) (fun hb80 => ?_)
     ·have hb80R := hb80; simp only [z1, z2, z3, z4, z5, z6, ne_eq, z7, z8, z9, z10, z11, z12] at hb80
      refine g_step rfl rfl rfl rfl (e_move (v := .lit _ _ _) rfl) trivial ?_
      refine g_step rfl rfl rfl rfl (e_move (v := .lit _ _ _) rfl) trivial ?_
      refine g_call rfl rfl rfl rfl (.cons inn_lit (.cons inn_lit .nil)) (SameStock _ _ (Nat.le_trans (moveR_len _ _) (by decide))) ?_
      refine g_step rfl rfl rfl rfl (e_pickT (v := .sc _) rfl rfl) trivial ?_
      refine g_step rfl rfl rfl rfl (e_assign (v := .sc _) rfl) trivial ?_
      refine g_end (ds := [124, 125, 126]) rfl rfl (hK79 _ ?_); clear hK79 K79
      refine pwp_ret ?_
      refine end1 (v := .sc _) rfl ?_
      (refine out_b ?_; rw [hback]; simp; done)
     have hb80R := hb80; simp only [z1, z2, z3, z4, z5, z6, ne_eq, z7, z8, z9, z10, z11, z12] at hb80; have hme := moveR_err hb80
     refine g_skip rfl rfl rfl ?_
     refine g_skip rfl rfl rfl ?_
     refine g_nocall rfl rfl rfl ?_
     refine g_step rfl rfl rfl rfl (e_pickF (v := .sc _) rfl rfl) trivial ?_
     refine g_step rfl rfl rfl rfl (e_assign (v := .sc _) rfl) trivial ?_
     refine g_end (ds := [124, 125, 126]) rfl rfl (hK79 _ ?_); clear hK79 K79
     refine pwp_ret ?_
     refine end1 (v := .sc _) rfl ?_
     (exfalso; have h9 : (moveR (moveR xs m).2 (undM m)).1 = (normR xs).1 := congrArg Prod.fst hback; omega)
    have hb31R := hb31; simp only [z1, z2, z3, z4, z5, z6, ne_eq, z7, z8, z9, z10, z11, z12] at hb31
    refine g_skip rfl rfl rfl ?_
    refine g_skip rfl rfl rfl ?_
    refine g_skip rfl rfl rfl ?_
    refine g_step rfl rfl rfl rfl (e_pickF (v := .sc _) rfl rfl) trivial ?_
    refine g_end (ds := [77, 78, 79]) rfl rfl (hK30 _ ?_); clear hK30 K30
    refine pwp_seq_cond (t := false) rfl fun K81 hK81 => ⟨nofun, fun _ => ?_⟩
    refine pwp_skip ?_
    refine seq_norm (hK81 _ ?_); clear hK81 K81
    refine pwp_seq_seq ?_
    refine pwp_seq_gops rfl fun K82 hK82 => ?_
    refine g_begin ?_
    refine g_step rfl rfl rfl rfl (e_move (v := .sc _) rfl) trivial ?_
    refine g_step rfl rfl rfl rfl (e_ne rfl rfl) trivial ?_
    refine g_step rfl rfl rfl rfl (e_move (v := .sc _) rfl) trivial ?_
    refine g_cases (fun hb83 => ?_) (fun hb83 => ?_)
    ·have hb83R := hb83; simp only [z1, z2, z3, z4, z5, z6, ne_eq, z7, z8, z9, z10, z11, z12] at hb83
     refine g_skip rfl rfl rfl ?_
     refine g_skip rfl rfl rfl ?_
     refine g_step rfl rfl rfl rfl (e_pickT (v := .sc _) rfl rfl) trivial ?_
     refine g_step rfl rfl rfl rfl (e_move (v := .sc _) rfl) trivial ?_
     refine g_skip rfl rfl rfl ?_
     refine g_skip rfl rfl rfl ?_
     refine g_skip rfl rfl rfl ?_
     refine g_skip rfl rfl rfl ?_
     refine g_skip rfl rfl rfl ?_
     refine g_step rfl rfl rfl rfl (e_pickT (v := .sc _) rfl rfl) trivial ?_
     refine g_end (ds := [87, 88, 91, 92, 93, 94, 95]) rfl rfl (hK82 _ ?_); clear hK82 K82
     refine pwp_seq_cond (t := true) rfl fun K84 hK84 => ⟨fun _ => ?_, nofun⟩
     refine pwp_seq_plain rfl fun K85 hK85 => ?_
     refine p_step rfl (e_assign (v := .sc _) rfl) trivial ?_
     refine p_end (hK85 _ ?_); clear hK85 K85
     refine pwp_ret ?_
     refine ret_seq ?_
     refine end1 (v := .sc _) rfl ?_
     (exfalso; omega)
    have hb83R := hb83; simp only [z1, z2, z3, z4, z5, z6, ne_eq, z7, z8, z9, z10, z11, z12] at hb83; have hst : stockE xs = 0 := hb83
    refine g_step rfl rfl rfl rfl (e_move (v := .sc _) rfl) trivial ?_
    refine g_step rfl rfl rfl rfl (e_ne rfl rfl) trivial ?_
    refine g_step rfl rfl rfl rfl (e_pickF (v := .sc _) rfl rfl) trivial ?_
    refine g_step rfl rfl rfl rfl (e_move (v := .sc _) rfl) trivial ?_
    refine g_cases (fun hb86 => ?_) (fun hb86 => ?_)
    ·have hb86R := hb86; simp only [z1, z2, z3, z4, z5, z6, ne_eq, z7, z8, z9, z10, z11, z12] at hb86
     refine g_skip rfl rfl rfl ?_
     refine g_skip rfl rfl rfl ?_
     refine g_skip rfl rfl rfl ?_
     refine g_skip rfl rfl rfl ?_
     refine g_skip rfl rfl rfl ?_
     refine g_step rfl rfl rfl rfl (e_pickT (v := .sc _) rfl rfl) trivial ?_
     refine g_end (ds := [87, 88, 91, 92, 93, 94, 95]) rfl rfl (hK82 _ ?_); clear hK82 K82
     refine pwp_seq_cond (t := true) rfl fun K87 hK87 => ⟨fun _ => ?_, nofun⟩
     refine pwp_seq_plain rfl fun K88 hK88 => ?_
     refine p_step rfl (e_assign (v := .sc _) rfl) trivial ?_
     refine p_end (hK88 _ ?_); clear hK88 K88
     refine pwp_ret ?_
     refine ret_seq ?_
     refine end1 (v := .sc _) rfl ?_
     (exfalso; rw [moveR_ok] at *; omega)
    have hb86R := hb86; simp only [z1, z2, z3, z4, z5, z6, ne_eq, z7, z8, z9, z10, z11, z12] at hb86
    refine g_step rfl rfl rfl rfl (e_move (v := .sc _) rfl) trivial ?_
    refine g_step rfl rfl rfl rfl (e_move (v := .sc _) rfl) trivial ?_
    refine g_step rfl rfl rfl rfl (e_move (v := .sc _) rfl) trivial ?_
    refine g_step rfl rfl rfl rfl (e_add rfl rfl (by omega)) trivial ?_
    refine g_step rfl rfl rfl rfl (e_ne rfl rfl) trivial ?_
    refine g_step rfl rfl rfl rfl (e_pickF (v := .sc _) rfl rfl) trivial ?_
    refine g_end (ds := [87, 88, 91, 92, 93, 94, 95]) rfl rfl (hK82 _ ?_); clear hK82 K82
    refine pwp_seq_cond rfl fun K89 hK89 => ⟨fun hb90 => ?_, fun hb90 => ?_⟩
    ·have hb90R := hb90; simp only [z1, z2, z3, z4, z5, z6, ne_eq, z7, z8, z9, z10, z11, z12] at hb90
     refine pwp_seq_plain rfl fun K91 hK91 => ?_
     refine p_step rfl (e_assign (v := .sc _) rfl) trivial ?_
     refine p_end (hK91 _ ?_); clear hK91 K91
     refine pwp_ret ?_
     refine ret_seq ?_
     refine end1 (v := .sc _) rfl ?_
     (exfalso; have h9 := mq_f (m := m) (p := p) (by assumption) (by assumption) (by intro h8; have h9 := h8.1; have h10 := h8.2; first | omega | contradiction); omega)
    have hb90R := hb90; simp only [z1, z2, z3, z4, z5, z6, ne_eq, z7, z8, z9, z10, z11, z12] at hb90
    refine pwp_skip ?_
    refine seq_norm (hK89 _ ?_); clear hK89 K89
    refine pwp_seq_plain rfl fun K92 hK92 => ?_
    refine p_step rfl (e_loadHA (cs := Movement.enc (m)) (n := 6) rfl (hset_self _ _ _) (by kernel_rfl) (by kernel_rfl) (by kernel_rfl) (by exact Nat.zero_lt_one) (by decide) rfl) trivial ?_
    refine p_call rfl (.cons (inn_agg (Movement.pure (m))) .nil) (Undo _ (by omega)) ?_
    refine p_step rfl (e_move (v := .tup _) rfl) trivial ?_
    refine p_step rfl (e_ext (v := .agg _) rfl (by simp) rfl) trivial ?_
    refine p_step rfl (e_ext (v := .sc _) rfl (by simp) rfl) trivial ?_
    refine p_new rfl (e_alloc (cs := [.str ByteArray.empty, .int 0, .int 0, .int 0, .int 0, .int 0]) (n := 6) (by kernel_rfl) rfl (by decide)) (ob_alloc (by decide)) ?_
    refine p_store rfl (e_storeA rfl (hset_self _ _ _) rfl rfl rfl (by kernel_rfl) rfl (by kernel_rfl)) trivial ?_
    refine p_step rfl (e_assign (v := .sc _) rfl) trivial ?_
    refine p_end (hK92 _ ?_); clear hK92 K92
    refine pwp_seq_seq ?_
    refine pwp_seq_plain rfl fun K93 hK93 => ?_
    refine p_step rfl (e_move (v := .sc _) rfl) trivial ?_
    refine p_step rfl (e_ne rfl rfl) trivial ?_
    refine p_end (hK93 _ ?_); clear hK93 K93
    refine pwp_seq_cond rfl fun K94 hK94 => ⟨fun hb95 => ?_, fun hb95 => ?_⟩
    ·have hb95R := hb95; simp only [z1, z2, z3, z4, z5, z6, ne_eq, z7, z8, z9, z10, z11, z12] at hb95
     refine pwp_seq_plain rfl fun K96 hK96 => ?_
     refine p_step rfl (e_move (v := .sc _) rfl) trivial ?_
     refine p_step rfl (e_eq rfl rfl) trivial ?_
     refine p_step rfl (e_assign (v := .sc _) rfl) trivial ?_
     refine p_end (hK96 _ ?_); clear hK96 K96
     refine pwp_ret ?_
     refine ret_seq ?_
     refine end1 (v := .sc _) rfl ?_
     (exfalso; have h9 := mq_0 (m := m) (p := p) (by intro h8; have h9 := h8.1; have h10 := h8.2; first | omega | contradiction) (by intro h8; have h9 := h8.1; have h10 := h8.2; first | omega | contradiction); omega)
    have hb95R := hb95; simp only [z1, z2, z3, z4, z5, z6, ne_eq, z7, z8, z9, z10, z11, z12] at hb95; have hu0 : undE m = 0 := hb95; have hback : moveR (moveR xs m).2 (undM m) = normR xs := by rw [undM_0 hu0]; exact move_back hst hm0 hu0
    refine pwp_skip ?_
    refine seq_norm (hK94 _ ?_); clear hK94 K94
    refine pwp_seq_plain rfl fun K97 hK97 => ?_
    refine p_step rfl (e_move (v := .lit _ _ _) rfl) trivial ?_
    refine p_step rfl (e_loadHA (cs := Movement.enc ((undM m))) (n := 6) rfl (hset_self _ _ _) (by kernel_rfl) (by kernel_rfl) (by kernel_rfl) (by exact Nat.zero_lt_one) (by decide) rfl) trivial ?_
    refine p_call rfl (.cons inn_lit (.cons (inn_agg (Movement.pure ((undM m)))) .nil)) (MoveS _ _ (Nat.le_trans (moveR_len xs m) (by decide)) (moveR_part hsh.2.2 (by omega)) (by rw [undM_0 (by omega)]; exact msz (by omega))) ?_
    refine p_step rfl (e_move (v := .tup _) rfl) trivial ?_
    refine p_step rfl (e_ext (v := .lit _ _ _) rfl (by simp) rfl) trivial ?_
    refine p_step rfl (e_ext (v := .sc _) rfl (by simp) rfl) trivial ?_
    refine p_step rfl (e_assign (v := .lit _ _ _) rfl) trivial ?_
    refine p_step rfl (e_assign (v := .sc _) rfl) trivial ?_
    refine p_end (hK97 _ ?_); clear hK97 K97
    refine pwp_seq_plain rfl fun K98 hK98 => ?_
    refine p_step rfl (e_move (v := .lit _ _ _) rfl) trivial ?_
    refine p_call rfl (.cons inn_lit .nil) (NormalS _ hsh.2.1 hsh.2.2) ?_
    refine p_step rfl (e_move (v := .tup _) rfl) trivial ?_
    refine p_step rfl (e_ext (v := .lit _ _ _) rfl (by simp) rfl) trivial ?_
    refine p_step rfl (e_ext (v := .sc _) rfl (by simp) rfl) trivial ?_
    refine p_step rfl (e_assign (v := .lit _ _ _) rfl) trivial ?_
    refine p_step rfl (e_assign (v := .sc _) rfl) trivial ?_
    refine p_end (hK98 _ ?_); clear hK98 K98
    refine pwp_seq_seq ?_
    refine pwp_seq_plain rfl fun K99 hK99 => ?_
    refine p_step rfl (e_move (v := .sc _) rfl) trivial ?_
    refine p_step rfl (e_ne rfl rfl) trivial ?_
    refine p_end (hK99 _ ?_); clear hK99 K99
    refine pwp_seq_cond rfl fun K100 hK100 => ⟨fun hb101 => ?_, fun hb101 => ?_⟩
    ·have hb101R := hb101; simp only [z1, z2, z3, z4, z5, z6, ne_eq, z7, z8, z9, z10, z11, z12] at hb101
     refine pwp_seq_plain rfl fun K102 hK102 => ?_
     refine p_step rfl (e_move (v := .sc _) rfl) trivial ?_
     refine p_step rfl (e_eq rfl rfl) trivial ?_
     refine p_step rfl (e_assign (v := .sc _) rfl) trivial ?_
     refine p_end (hK102 _ ?_); clear hK102 K102
     refine pwp_ret ?_
     refine ret_seq ?_
     refine end1 (v := .sc _) rfl ?_
     (exfalso; have h9 := mq_0 (m := m) (p := p) (by intro h8; have h9 := h8.1; have h10 := h8.2; first | omega | contradiction) (by intro h8; have h9 := h8.1; have h10 := h8.2; first | omega | contradiction); omega)
    have hb101R := hb101; simp only [z1, z2, z3, z4, z5, z6, ne_eq, z7, z8, z9, z10, z11, z12] at hb101
    refine pwp_skip ?_
    refine seq_norm (hK100 _ ?_); clear hK100 K100
    refine pwp_seq_gops rfl fun K103 hK103 => ?_
    refine g_begin ?_
    refine g_step rfl rfl rfl rfl (e_move (v := .sc _) rfl) trivial ?_
    refine g_step rfl rfl rfl rfl (e_eq rfl rfl) trivial ?_
    refine g_step rfl rfl rfl rfl (e_move (v := .sc _) rfl) trivial ?_
    refine g_cases (fun hb104 => ?_) (fun hb104 => ?_)
    ·have hb104R := hb104; simp only [z1, z2, z3, z4, z5, z6, ne_eq, z7, z8, z9, z10, z11, z12] at hb104
     refine g_step rfl rfl rfl rfl (e_move (v := .lit _ _ _) rfl) trivial ?_
     refine g_step rfl rfl rfl rfl (e_move (v := .lit _ _ _) rfl) trivial ?_
     refine g_call rfl rfl rfl rfl (.cons inn_lit (.cons inn_lit .nil)) (SameStock _ _ (Nat.le_trans (moveR_len _ _) (by decide))) ?_
     refine g_step rfl rfl rfl rfl (e_pickT (v := .sc _) rfl rfl) trivial ?_
     refine g_step rfl rfl rfl rfl (e_assign (v := .sc _) rfl) trivial ?_
     refine g_end (ds := [124, 125, 126]) rfl rfl (hK103 _ ?_); clear hK103 K103
     refine pwp_ret ?_
     refine end1 (v := .sc _) rfl ?_
     (exfalso; have h9 := mq_0 (m := m) (p := p) (by intro h8; have h9 := h8.1; have h10 := h8.2; first | omega | contradiction) (by intro h8; have h9 := h8.1; have h10 := h8.2; first | omega | contradiction); omega)
    have hb104R := hb104; simp only [z1, z2, z3, z4, z5, z6, ne_eq, z7, z8, z9, z10, z11, z12] at hb104; have hme := moveR_err hb104
    refine g_skip rfl rfl rfl ?_
    refine g_skip rfl rfl rfl ?_
    refine g_nocall rfl rfl rfl ?_
    refine g_step rfl rfl rfl rfl (e_pickF (v := .sc _) rfl rfl) trivial ?_
    refine g_step rfl rfl rfl rfl (e_assign (v := .sc _) rfl) trivial ?_
    refine g_end (ds := [124, 125, 126]) rfl rfl (hK103 _ ?_); clear hK103 K103
    refine pwp_ret ?_
    refine end1 (v := .sc _) rfl ?_
    (exfalso; have h9 := mq_0 (m := m) (p := p) (by intro h8; have h9 := h8.1; have h10 := h8.2; first | omega | contradiction) (by intro h8; have h9 := h8.1; have h10 := h8.2; first | omega | contradiction); omega)
   have hb28R := hb28; simp only [z1, z2, z3, z4, z5, z6, ne_eq, z7, z8, z9, z10, z11, z12] at hb28
   refine pwp_skip ?_
   refine seq_norm (hK27 _ ?_); clear hK27 K27
   refine pwp_seq_seq ?_
   refine pwp_seq_gops rfl fun K105 hK105 => ?_
   refine g_begin ?_
   refine g_step rfl rfl rfl rfl (e_move (v := .sc _) rfl) trivial ?_
   refine g_step rfl rfl rfl rfl (e_faP (pl := [(0, 1, false), (1, 1, false), (2, 1, false), (3, 1, false), (4, 1, false), (5, 1, false)]) rfl (by kernel_rfl) (by kernel_rfl) (by decide) rfl) trivial ?_
   refine g_step rfl rfl rfl rfl (e_loadH (v := .sc _) rfl (hset_self _ _ _) (by kernel_rfl) (by kernel_rfl) (by kernel_rfl) (by exact Nat.zero_lt_one) (by decide) rfl) trivial ?_
   refine g_step rfl rfl rfl rfl (e_seq rfl rfl) trivial ?_
   refine g_step rfl rfl rfl rfl (e_move (v := .sc _) rfl) trivial ?_
   refine g_cases (fun hb106 => ?_) (fun hb106 => ?_)
   ·have hb106R := hb106; simp only [z1, z2, z3, z4, z5, z6, ne_eq, z7, z8, z9, z10, z11, z12] at hb106
    refine g_step rfl rfl rfl rfl (e_faP (pl := [(0, 1, false), (1, 1, false), (2, 1, false), (3, 1, false), (4, 1, false), (5, 1, false)]) rfl (by kernel_rfl) (by kernel_rfl) (by decide) rfl) trivial ?_
    refine g_step rfl rfl rfl rfl (e_loadH (v := .sc _) rfl (hset_self _ _ _) (by kernel_rfl) (by kernel_rfl) (by kernel_rfl) (by exact Nat.zero_lt_one) (by decide) rfl) trivial ?_
    refine g_step rfl rfl rfl rfl (e_eq rfl rfl) trivial ?_
    refine g_step rfl rfl rfl rfl (e_pickT (v := .sc _) rfl rfl) trivial ?_
    refine g_end (ds := [77, 78, 79]) rfl rfl (hK105 _ ?_); clear hK105 K105
    refine pwp_seq_cond rfl fun K107 hK107 => ⟨fun hb108 => ?_, fun hb108 => ?_⟩
    ·have hb108R := hb108; simp only [z1, z2, z3, z4, z5, z6, ne_eq, z7, z8, z9, z10, z11, z12] at hb108
     refine pwp_plain rfl fun K109 hK109 => ?_
     refine p_step rfl (e_faP (pl := [(0, 1, false), (1, 1, false), (2, 1, false), (3, 1, false), (4, 1, false), (5, 1, false)]) rfl (by kernel_rfl) (by kernel_rfl) (by decide) rfl) trivial ?_
     refine p_step rfl (e_loadH (v := .sc _) rfl (hset_self _ _ _) (by kernel_rfl) (by kernel_rfl) (by kernel_rfl) (by exact Nat.zero_lt_one) (by decide) rfl) trivial ?_
     refine p_step rfl (e_neg rfl (by omega)) trivial ?_
     refine p_step rfl (e_assign (v := .sc _) rfl) trivial ?_
     refine p_end (hK109 _ ?_); clear hK109 K109
     refine seq_norm (hK107 _ ?_); clear hK107 K107
     refine pwp_seq_seq ?_
     refine pwp_seq_gops rfl fun K110 hK110 => ?_
     refine g_begin ?_
     refine g_step rfl rfl rfl rfl (e_move (v := .sc _) rfl) trivial ?_
     refine g_step rfl rfl rfl rfl (e_ne rfl rfl) trivial ?_
     refine g_step rfl rfl rfl rfl (e_move (v := .sc _) rfl) trivial ?_
     refine g_cases (fun hb111 => ?_) (fun hb111 => ?_)
     ·have hb111R := hb111; simp only [z1, z2, z3, z4, z5, z6, ne_eq, z7, z8, z9, z10, z11, z12] at hb111
      refine g_skip rfl rfl rfl ?_
      refine g_skip rfl rfl rfl ?_
      refine g_step rfl rfl rfl rfl (e_pickT (v := .sc _) rfl rfl) trivial ?_
      refine g_step rfl rfl rfl rfl (e_move (v := .sc _) rfl) trivial ?_
      refine g_skip rfl rfl rfl ?_
      refine g_skip rfl rfl rfl ?_
      refine g_skip rfl rfl rfl ?_
      refine g_skip rfl rfl rfl ?_
      refine g_skip rfl rfl rfl ?_
      refine g_step rfl rfl rfl rfl (e_pickT (v := .sc _) rfl rfl) trivial ?_
      refine g_end (ds := [87, 88, 91, 92, 93, 94, 95]) rfl rfl (hK110 _ ?_); clear hK110 K110
      refine pwp_seq_cond (t := true) rfl fun K112 hK112 => ⟨fun _ => ?_, nofun⟩
      refine pwp_seq_plain rfl fun K113 hK113 => ?_
      refine p_step rfl (e_assign (v := .sc _) rfl) trivial ?_
      refine p_end (hK113 _ ?_); clear hK113 K113
      refine pwp_ret ?_
      refine ret_seq ?_
      refine end1 (v := .sc _) rfl ?_
      (exfalso; omega)
     have hb111R := hb111; simp only [z1, z2, z3, z4, z5, z6, ne_eq, z7, z8, z9, z10, z11, z12] at hb111; have hst : stockE xs = 0 := hb111
     refine g_step rfl rfl rfl rfl (e_move (v := .sc _) rfl) trivial ?_
     refine g_step rfl rfl rfl rfl (e_ne rfl rfl) trivial ?_
     refine g_step rfl rfl rfl rfl (e_pickF (v := .sc _) rfl rfl) trivial ?_
     refine g_step rfl rfl rfl rfl (e_move (v := .sc _) rfl) trivial ?_
     refine g_cases (fun hb114 => ?_) (fun hb114 => ?_)
     ·have hb114R := hb114; simp only [z1, z2, z3, z4, z5, z6, ne_eq, z7, z8, z9, z10, z11, z12] at hb114
      refine g_skip rfl rfl rfl ?_
      refine g_skip rfl rfl rfl ?_
      refine g_skip rfl rfl rfl ?_
      refine g_skip rfl rfl rfl ?_
      refine g_skip rfl rfl rfl ?_
      refine g_step rfl rfl rfl rfl (e_pickT (v := .sc _) rfl rfl) trivial ?_
      refine g_end (ds := [87, 88, 91, 92, 93, 94, 95]) rfl rfl (hK110 _ ?_); clear hK110 K110
      refine pwp_seq_cond (t := true) rfl fun K115 hK115 => ⟨fun _ => ?_, nofun⟩
      refine pwp_seq_plain rfl fun K116 hK116 => ?_
      refine p_step rfl (e_assign (v := .sc _) rfl) trivial ?_
      refine p_end (hK116 _ ?_); clear hK116 K116
      refine pwp_ret ?_
      refine ret_seq ?_
      refine end1 (v := .sc _) rfl ?_
      (exfalso; rw [moveR_ok] at *; omega)
     have hb114R := hb114; simp only [z1, z2, z3, z4, z5, z6, ne_eq, z7, z8, z9, z10, z11, z12] at hb114
     refine g_step rfl rfl rfl rfl (e_move (v := .sc _) rfl) trivial ?_
     refine g_step rfl rfl rfl rfl (e_move (v := .sc _) rfl) trivial ?_
     refine g_step rfl rfl rfl rfl (e_move (v := .sc _) rfl) trivial ?_
     refine g_step rfl rfl rfl rfl (e_add rfl rfl (by omega)) trivial ?_
     refine g_step rfl rfl rfl rfl (e_ne rfl rfl) trivial ?_
     refine g_step rfl rfl rfl rfl (e_pickF (v := .sc _) rfl rfl) trivial ?_
     refine g_end (ds := [87, 88, 91, 92, 93, 94, 95]) rfl rfl (hK110 _ ?_); clear hK110 K110
     refine pwp_seq_cond rfl fun K117 hK117 => ⟨fun hb118 => ?_, fun hb118 => ?_⟩
     ·have hb118R := hb118; simp only [z1, z2, z3, z4, z5, z6, ne_eq, z7, z8, z9, z10, z11, z12] at hb118
      refine pwp_seq_plain rfl fun K119 hK119 => ?_
      refine p_step rfl (e_assign (v := .sc _) rfl) trivial ?_
      refine p_end (hK119 _ ?_); clear hK119 K119
      refine pwp_ret ?_
      refine ret_seq ?_
      refine end1 (v := .sc _) rfl ?_
      (exfalso; have h9 := mq_t (m := m) (p := p) (by assumption) (by assumption); omega)
     have hb118R := hb118; simp only [z1, z2, z3, z4, z5, z6, ne_eq, z7, z8, z9, z10, z11, z12] at hb118
     refine pwp_skip ?_
     refine seq_norm (hK117 _ ?_); clear hK117 K117
     refine pwp_seq_plain rfl fun K120 hK120 => ?_
     refine p_step rfl (e_loadHA (cs := Movement.enc (m)) (n := 6) rfl (hset_self _ _ _) (by kernel_rfl) (by kernel_rfl) (by kernel_rfl) (by exact Nat.zero_lt_one) (by decide) rfl) trivial ?_
     refine p_call rfl (.cons (inn_agg (Movement.pure (m))) .nil) (Undo _ (by omega)) ?_
     refine p_step rfl (e_move (v := .tup _) rfl) trivial ?_
     refine p_step rfl (e_ext (v := .agg _) rfl (by simp) rfl) trivial ?_
     refine p_step rfl (e_ext (v := .sc _) rfl (by simp) rfl) trivial ?_
     refine p_new rfl (e_alloc (cs := [.str ByteArray.empty, .int 0, .int 0, .int 0, .int 0, .int 0]) (n := 6) (by kernel_rfl) rfl (by decide)) (ob_alloc (by decide)) ?_
     refine p_store rfl (e_storeA rfl (hset_self _ _ _) rfl rfl rfl (by kernel_rfl) rfl (by kernel_rfl)) trivial ?_
     refine p_step rfl (e_assign (v := .sc _) rfl) trivial ?_
     refine p_end (hK120 _ ?_); clear hK120 K120
     refine pwp_seq_seq ?_
     refine pwp_seq_plain rfl fun K121 hK121 => ?_
     refine p_step rfl (e_move (v := .sc _) rfl) trivial ?_
     refine p_step rfl (e_ne rfl rfl) trivial ?_
     refine p_end (hK121 _ ?_); clear hK121 K121
     refine pwp_seq_cond rfl fun K122 hK122 => ⟨fun hb123 => ?_, fun hb123 => ?_⟩
     ·have hb123R := hb123; simp only [z1, z2, z3, z4, z5, z6, ne_eq, z7, z8, z9, z10, z11, z12] at hb123
      refine pwp_seq_plain rfl fun K124 hK124 => ?_
      refine p_step rfl (e_move (v := .sc _) rfl) trivial ?_
      refine p_step rfl (e_eq rfl rfl) trivial ?_
      refine p_step rfl (e_assign (v := .sc _) rfl) trivial ?_
      refine p_end (hK124 _ ?_); clear hK124 K124
      refine pwp_ret ?_
      refine ret_seq ?_
      refine end1 (v := .sc _) rfl ?_
      (refine out_b ?_; have h9 := hun.resolve_left (by assumption); simp [h9]; done)
     have hb123R := hb123; simp only [z1, z2, z3, z4, z5, z6, ne_eq, z7, z8, z9, z10, z11, z12] at hb123; have hu0 : undE m = 0 := hb123; have hback : moveR (moveR xs m).2 (undM m) = normR xs := by rw [undM_0 hu0]; exact move_back hst hm0 hu0
     refine pwp_skip ?_
     refine seq_norm (hK122 _ ?_); clear hK122 K122
     refine pwp_seq_plain rfl fun K125 hK125 => ?_
     refine p_step rfl (e_move (v := .lit _ _ _) rfl) trivial ?_
     refine p_step rfl (e_loadHA (cs := Movement.enc ((undM m))) (n := 6) rfl (hset_self _ _ _) (by kernel_rfl) (by kernel_rfl) (by kernel_rfl) (by exact Nat.zero_lt_one) (by decide) rfl) trivial ?_
     refine p_call rfl (.cons inn_lit (.cons (inn_agg (Movement.pure ((undM m)))) .nil)) (MoveS _ _ (Nat.le_trans (moveR_len xs m) (by decide)) (moveR_part hsh.2.2 (by omega)) (by rw [undM_0 (by omega)]; exact msz (by omega))) ?_
     refine p_step rfl (e_move (v := .tup _) rfl) trivial ?_
     refine p_step rfl (e_ext (v := .lit _ _ _) rfl (by simp) rfl) trivial ?_
     refine p_step rfl (e_ext (v := .sc _) rfl (by simp) rfl) trivial ?_
     refine p_step rfl (e_assign (v := .lit _ _ _) rfl) trivial ?_
     refine p_step rfl (e_assign (v := .sc _) rfl) trivial ?_
     refine p_end (hK125 _ ?_); clear hK125 K125
     refine pwp_seq_plain rfl fun K126 hK126 => ?_
     refine p_step rfl (e_move (v := .lit _ _ _) rfl) trivial ?_
     refine p_call rfl (.cons inn_lit .nil) (NormalS _ hsh.2.1 hsh.2.2) ?_
     refine p_step rfl (e_move (v := .tup _) rfl) trivial ?_
     refine p_step rfl (e_ext (v := .lit _ _ _) rfl (by simp) rfl) trivial ?_
     refine p_step rfl (e_ext (v := .sc _) rfl (by simp) rfl) trivial ?_
     refine p_step rfl (e_assign (v := .lit _ _ _) rfl) trivial ?_
     refine p_step rfl (e_assign (v := .sc _) rfl) trivial ?_
     refine p_end (hK126 _ ?_); clear hK126 K126
     refine pwp_seq_seq ?_
     refine pwp_seq_plain rfl fun K127 hK127 => ?_
     refine p_step rfl (e_move (v := .sc _) rfl) trivial ?_
     refine p_step rfl (e_ne rfl rfl) trivial ?_
     refine p_end (hK127 _ ?_); clear hK127 K127
     refine pwp_seq_cond rfl fun K128 hK128 => ⟨fun hb129 => ?_, fun hb129 => ?_⟩
     ·have hb129R := hb129; simp only [z1, z2, z3, z4, z5, z6, ne_eq, z7, z8, z9, z10, z11, z12] at hb129
      refine pwp_seq_plain rfl fun K130 hK130 => ?_
      refine p_step rfl (e_move (v := .sc _) rfl) trivial ?_
      refine p_step rfl (e_eq rfl rfl) trivial ?_
      refine p_step rfl (e_assign (v := .sc _) rfl) trivial ?_
      refine p_end (hK130 _ ?_); clear hK130 K130
      refine pwp_ret ?_
      refine ret_seq ?_
      refine end1 (v := .sc _) rfl ?_
      (refine out_b ?_; simp [norm_8 hst (by assumption)]; done)
     have hb129R := hb129; simp only [z1, z2, z3, z4, z5, z6, ne_eq, z7, z8, z9, z10, z11, z12] at hb129
     refine pwp_skip ?_
     refine seq_norm (hK128 _ ?_); clear hK128 K128
     refine pwp_seq_gops rfl fun K131 hK131 => ?_
     refine g_begin ?_
     refine g_step rfl rfl rfl rfl (e_move (v := .sc _) rfl) trivial ?_
     refine g_step rfl rfl rfl rfl (e_eq rfl rfl) trivial ?_
     refine g_step rfl rfl rfl rfl (e_move (v := .sc _) rfl) trivial ?_
     refine g_cases (fun hb132 => ?_) (fun hb132 => ?_)
     ·have hb132R := hb132; simp only [z1, z2, z3, z4, z5, z6, ne_eq, z7, z8, z9, z10, z11, z12] at hb132
      refine g_step rfl rfl rfl rfl (e_move (v := .lit _ _ _) rfl) trivial ?_
      refine g_step rfl rfl rfl rfl (e_move (v := .lit _ _ _) rfl) trivial ?_
      refine g_call rfl rfl rfl rfl (.cons inn_lit (.cons inn_lit .nil)) (SameStock _ _ (Nat.le_trans (moveR_len _ _) (by decide))) ?_
      refine g_step rfl rfl rfl rfl (e_pickT (v := .sc _) rfl rfl) trivial ?_
      refine g_step rfl rfl rfl rfl (e_assign (v := .sc _) rfl) trivial ?_
      refine g_end (ds := [124, 125, 126]) rfl rfl (hK131 _ ?_); clear hK131 K131
      refine pwp_ret ?_
      refine end1 (v := .sc _) rfl ?_
      (refine out_b ?_; rw [hback]; simp; done)
     have hb132R := hb132; simp only [z1, z2, z3, z4, z5, z6, ne_eq, z7, z8, z9, z10, z11, z12] at hb132; have hme := moveR_err hb132
     refine g_skip rfl rfl rfl ?_
     refine g_skip rfl rfl rfl ?_
     refine g_nocall rfl rfl rfl ?_
     refine g_step rfl rfl rfl rfl (e_pickF (v := .sc _) rfl rfl) trivial ?_
     refine g_step rfl rfl rfl rfl (e_assign (v := .sc _) rfl) trivial ?_
     refine g_end (ds := [124, 125, 126]) rfl rfl (hK131 _ ?_); clear hK131 K131
     refine pwp_ret ?_
     refine end1 (v := .sc _) rfl ?_
     (exfalso; have h9 : (moveR (moveR xs m).2 (undM m)).1 = (normR xs).1 := congrArg Prod.fst hback; omega)
    have hb108R := hb108; simp only [z1, z2, z3, z4, z5, z6, ne_eq, z7, z8, z9, z10, z11, z12] at hb108
    refine pwp_skip ?_
    refine seq_norm (hK107 _ ?_); clear hK107 K107
    refine pwp_seq_seq ?_
    refine pwp_seq_gops rfl fun K133 hK133 => ?_
    refine g_begin ?_
    refine g_step rfl rfl rfl rfl (e_move (v := .sc _) rfl) trivial ?_
    refine g_step rfl rfl rfl rfl (e_ne rfl rfl) trivial ?_
    refine g_step rfl rfl rfl rfl (e_move (v := .sc _) rfl) trivial ?_
    refine g_cases (fun hb134 => ?_) (fun hb134 => ?_)
    ·have hb134R := hb134; simp only [z1, z2, z3, z4, z5, z6, ne_eq, z7, z8, z9, z10, z11, z12] at hb134
     refine g_skip rfl rfl rfl ?_
     refine g_skip rfl rfl rfl ?_
     refine g_step rfl rfl rfl rfl (e_pickT (v := .sc _) rfl rfl) trivial ?_
     refine g_step rfl rfl rfl rfl (e_move (v := .sc _) rfl) trivial ?_
     refine g_skip rfl rfl rfl ?_
     refine g_skip rfl rfl rfl ?_
     refine g_skip rfl rfl rfl ?_
     refine g_skip rfl rfl rfl ?_
     refine g_skip rfl rfl rfl ?_
     refine g_step rfl rfl rfl rfl (e_pickT (v := .sc _) rfl rfl) trivial ?_
     refine g_end (ds := [87, 88, 91, 92, 93, 94, 95]) rfl rfl (hK133 _ ?_); clear hK133 K133
     refine pwp_seq_cond (t := true) rfl fun K135 hK135 => ⟨fun _ => ?_, nofun⟩
     refine pwp_seq_plain rfl fun K136 hK136 => ?_
     refine p_step rfl (e_assign (v := .sc _) rfl) trivial ?_
     refine p_end (hK136 _ ?_); clear hK136 K136
     refine pwp_ret ?_
     refine ret_seq ?_
     refine end1 (v := .sc _) rfl ?_
     (exfalso; omega)
    have hb134R := hb134; simp only [z1, z2, z3, z4, z5, z6, ne_eq, z7, z8, z9, z10, z11, z12] at hb134; have hst : stockE xs = 0 := hb134
    refine g_step rfl rfl rfl rfl (e_move (v := .sc _) rfl) trivial ?_
    refine g_step rfl rfl rfl rfl (e_ne rfl rfl) trivial ?_
    refine g_step rfl rfl rfl rfl (e_pickF (v := .sc _) rfl rfl) trivial ?_
    refine g_step rfl rfl rfl rfl (e_move (v := .sc _) rfl) trivial ?_
    refine g_cases (fun hb137 => ?_) (fun hb137 => ?_)
    ·have hb137R := hb137; simp only [z1, z2, z3, z4, z5, z6, ne_eq, z7, z8, z9, z10, z11, z12] at hb137
     refine g_skip rfl rfl rfl ?_
     refine g_skip rfl rfl rfl ?_
     refine g_skip rfl rfl rfl ?_
     refine g_skip rfl rfl rfl ?_
     refine g_skip rfl rfl rfl ?_
     refine g_step rfl rfl rfl rfl (e_pickT (v := .sc _) rfl rfl) trivial ?_
     refine g_end (ds := [87, 88, 91, 92, 93, 94, 95]) rfl rfl (hK133 _ ?_); clear hK133 K133
     refine pwp_seq_cond (t := true) rfl fun K138 hK138 => ⟨fun _ => ?_, nofun⟩
     refine pwp_seq_plain rfl fun K139 hK139 => ?_
     refine p_step rfl (e_assign (v := .sc _) rfl) trivial ?_
     refine p_end (hK139 _ ?_); clear hK139 K139
     refine pwp_ret ?_
     refine ret_seq ?_
     refine end1 (v := .sc _) rfl ?_
     (exfalso; rw [moveR_ok] at *; omega)
    have hb137R := hb137; simp only [z1, z2, z3, z4, z5, z6, ne_eq, z7, z8, z9, z10, z11, z12] at hb137
    refine g_step rfl rfl rfl rfl (e_move (v := .sc _) rfl) trivial ?_
    refine g_step rfl rfl rfl rfl (e_move (v := .sc _) rfl) trivial ?_
    refine g_step rfl rfl rfl rfl (e_move (v := .sc _) rfl) trivial ?_
    refine g_step rfl rfl rfl rfl (e_add rfl rfl (by omega)) trivial ?_
    refine g_step rfl rfl rfl rfl (e_ne rfl rfl) trivial ?_
    refine g_step rfl rfl rfl rfl (e_pickF (v := .sc _) rfl rfl) trivial ?_
    refine g_end (ds := [87, 88, 91, 92, 93, 94, 95]) rfl rfl (hK133 _ ?_); clear hK133 K133
    refine pwp_seq_cond rfl fun K140 hK140 => ⟨fun hb141 => ?_, fun hb141 => ?_⟩
    ·have hb141R := hb141; simp only [z1, z2, z3, z4, z5, z6, ne_eq, z7, z8, z9, z10, z11, z12] at hb141
     refine pwp_seq_plain rfl fun K142 hK142 => ?_
     refine p_step rfl (e_assign (v := .sc _) rfl) trivial ?_
     refine p_end (hK142 _ ?_); clear hK142 K142
     refine pwp_ret ?_
     refine ret_seq ?_
     refine end1 (v := .sc _) rfl ?_
     (exfalso; have h9 := mq_0 (m := m) (p := p) (by intro h8; have h9 := h8.1; have h10 := h8.2; first | omega | contradiction) (by intro h8; have h9 := h8.1; have h10 := h8.2; first | omega | contradiction); omega)
    have hb141R := hb141; simp only [z1, z2, z3, z4, z5, z6, ne_eq, z7, z8, z9, z10, z11, z12] at hb141
    refine pwp_skip ?_
    refine seq_norm (hK140 _ ?_); clear hK140 K140
    refine pwp_seq_plain rfl fun K143 hK143 => ?_
    refine p_step rfl (e_loadHA (cs := Movement.enc (m)) (n := 6) rfl (hset_self _ _ _) (by kernel_rfl) (by kernel_rfl) (by kernel_rfl) (by exact Nat.zero_lt_one) (by decide) rfl) trivial ?_
    refine p_call rfl (.cons (inn_agg (Movement.pure (m))) .nil) (Undo _ (by omega)) ?_
    refine p_step rfl (e_move (v := .tup _) rfl) trivial ?_
    refine p_step rfl (e_ext (v := .agg _) rfl (by simp) rfl) trivial ?_
    refine p_step rfl (e_ext (v := .sc _) rfl (by simp) rfl) trivial ?_
    refine p_new rfl (e_alloc (cs := [.str ByteArray.empty, .int 0, .int 0, .int 0, .int 0, .int 0]) (n := 6) (by kernel_rfl) rfl (by decide)) (ob_alloc (by decide)) ?_
    refine p_store rfl (e_storeA rfl (hset_self _ _ _) rfl rfl rfl (by kernel_rfl) rfl (by kernel_rfl)) trivial ?_
    refine p_step rfl (e_assign (v := .sc _) rfl) trivial ?_
    refine p_end (hK143 _ ?_); clear hK143 K143
    refine pwp_seq_seq ?_
    refine pwp_seq_plain rfl fun K144 hK144 => ?_
    refine p_step rfl (e_move (v := .sc _) rfl) trivial ?_
    refine p_step rfl (e_ne rfl rfl) trivial ?_
    refine p_end (hK144 _ ?_); clear hK144 K144
    refine pwp_seq_cond rfl fun K145 hK145 => ⟨fun hb146 => ?_, fun hb146 => ?_⟩
    ·have hb146R := hb146; simp only [z1, z2, z3, z4, z5, z6, ne_eq, z7, z8, z9, z10, z11, z12] at hb146
     refine pwp_seq_plain rfl fun K147 hK147 => ?_
     refine p_step rfl (e_move (v := .sc _) rfl) trivial ?_
     refine p_step rfl (e_eq rfl rfl) trivial ?_
     refine p_step rfl (e_assign (v := .sc _) rfl) trivial ?_
     refine p_end (hK147 _ ?_); clear hK147 K147
     refine pwp_ret ?_
     refine ret_seq ?_
     refine end1 (v := .sc _) rfl ?_
     (refine out_b ?_; have h9 := hun.resolve_left (by assumption); simp [h9]; done)
    have hb146R := hb146; simp only [z1, z2, z3, z4, z5, z6, ne_eq, z7, z8, z9, z10, z11, z12] at hb146; have hu0 : undE m = 0 := hb146; have hback : moveR (moveR xs m).2 (undM m) = normR xs := by rw [undM_0 hu0]; exact move_back hst hm0 hu0
    refine pwp_skip ?_
    refine seq_norm (hK145 _ ?_); clear hK145 K145
    refine pwp_seq_plain rfl fun K148 hK148 => ?_
    refine p_step rfl (e_move (v := .lit _ _ _) rfl) trivial ?_
    refine p_step rfl (e_loadHA (cs := Movement.enc ((undM m))) (n := 6) rfl (hset_self _ _ _) (by kernel_rfl) (by kernel_rfl) (by kernel_rfl) (by exact Nat.zero_lt_one) (by decide) rfl) trivial ?_
    refine p_call rfl (.cons inn_lit (.cons (inn_agg (Movement.pure ((undM m)))) .nil)) (MoveS _ _ (Nat.le_trans (moveR_len xs m) (by decide)) (moveR_part hsh.2.2 (by omega)) (by rw [undM_0 (by omega)]; exact msz (by omega))) ?_
    refine p_step rfl (e_move (v := .tup _) rfl) trivial ?_
    refine p_step rfl (e_ext (v := .lit _ _ _) rfl (by simp) rfl) trivial ?_
    refine p_step rfl (e_ext (v := .sc _) rfl (by simp) rfl) trivial ?_
    refine p_step rfl (e_assign (v := .lit _ _ _) rfl) trivial ?_
    refine p_step rfl (e_assign (v := .sc _) rfl) trivial ?_
    refine p_end (hK148 _ ?_); clear hK148 K148
    refine pwp_seq_plain rfl fun K149 hK149 => ?_
    refine p_step rfl (e_move (v := .lit _ _ _) rfl) trivial ?_
    refine p_call rfl (.cons inn_lit .nil) (NormalS _ hsh.2.1 hsh.2.2) ?_
    refine p_step rfl (e_move (v := .tup _) rfl) trivial ?_
    refine p_step rfl (e_ext (v := .lit _ _ _) rfl (by simp) rfl) trivial ?_
    refine p_step rfl (e_ext (v := .sc _) rfl (by simp) rfl) trivial ?_
    refine p_step rfl (e_assign (v := .lit _ _ _) rfl) trivial ?_
    refine p_step rfl (e_assign (v := .sc _) rfl) trivial ?_
    refine p_end (hK149 _ ?_); clear hK149 K149
    refine pwp_seq_seq ?_
    refine pwp_seq_plain rfl fun K150 hK150 => ?_
    refine p_step rfl (e_move (v := .sc _) rfl) trivial ?_
    refine p_step rfl (e_ne rfl rfl) trivial ?_
    refine p_end (hK150 _ ?_); clear hK150 K150
    refine pwp_seq_cond rfl fun K151 hK151 => ⟨fun hb152 => ?_, fun hb152 => ?_⟩
    ·have hb152R := hb152; simp only [z1, z2, z3, z4, z5, z6, ne_eq, z7, z8, z9, z10, z11, z12] at hb152
     refine pwp_seq_plain rfl fun K153 hK153 => ?_
     refine p_step rfl (e_move (v := .sc _) rfl) trivial ?_
     refine p_step rfl (e_eq rfl rfl) trivial ?_
     refine p_step rfl (e_assign (v := .sc _) rfl) trivial ?_
     refine p_end (hK153 _ ?_); clear hK153 K153
     refine pwp_ret ?_
     refine ret_seq ?_
     refine end1 (v := .sc _) rfl ?_
     (refine out_b ?_; simp [norm_8 hst (by assumption)]; done)
    have hb152R := hb152; simp only [z1, z2, z3, z4, z5, z6, ne_eq, z7, z8, z9, z10, z11, z12] at hb152
    refine pwp_skip ?_
    refine seq_norm (hK151 _ ?_); clear hK151 K151
    refine pwp_seq_gops rfl fun K154 hK154 => ?_
    refine g_begin ?_
    refine g_step rfl rfl rfl rfl (e_move (v := .sc _) rfl) trivial ?_
    refine g_step rfl rfl rfl rfl (e_eq rfl rfl) trivial ?_
    refine g_step rfl rfl rfl rfl (e_move (v := .sc _) rfl) trivial ?_
    refine g_cases (fun hb155 => ?_) (fun hb155 => ?_)
    ·have hb155R := hb155; simp only [z1, z2, z3, z4, z5, z6, ne_eq, z7, z8, z9, z10, z11, z12] at hb155
     refine g_step rfl rfl rfl rfl (e_move (v := .lit _ _ _) rfl) trivial ?_
     refine g_step rfl rfl rfl rfl (e_move (v := .lit _ _ _) rfl) trivial ?_
     refine g_call rfl rfl rfl rfl (.cons inn_lit (.cons inn_lit .nil)) (SameStock _ _ (Nat.le_trans (moveR_len _ _) (by decide))) ?_
     refine g_step rfl rfl rfl rfl (e_pickT (v := .sc _) rfl rfl) trivial ?_
     refine g_step rfl rfl rfl rfl (e_assign (v := .sc _) rfl) trivial ?_
     refine g_end (ds := [124, 125, 126]) rfl rfl (hK154 _ ?_); clear hK154 K154
     refine pwp_ret ?_
     refine end1 (v := .sc _) rfl ?_
     (refine out_b ?_; rw [hback]; simp; done)
    have hb155R := hb155; simp only [z1, z2, z3, z4, z5, z6, ne_eq, z7, z8, z9, z10, z11, z12] at hb155; have hme := moveR_err hb155
    refine g_skip rfl rfl rfl ?_
    refine g_skip rfl rfl rfl ?_
    refine g_nocall rfl rfl rfl ?_
    refine g_step rfl rfl rfl rfl (e_pickF (v := .sc _) rfl rfl) trivial ?_
    refine g_step rfl rfl rfl rfl (e_assign (v := .sc _) rfl) trivial ?_
    refine g_end (ds := [124, 125, 126]) rfl rfl (hK154 _ ?_); clear hK154 K154
    refine pwp_ret ?_
    refine end1 (v := .sc _) rfl ?_
    (exfalso; have h9 : (moveR (moveR xs m).2 (undM m)).1 = (normR xs).1 := congrArg Prod.fst hback; omega)
   have hb106R := hb106; simp only [z1, z2, z3, z4, z5, z6, ne_eq, z7, z8, z9, z10, z11, z12] at hb106
   refine g_skip rfl rfl rfl ?_
   refine g_skip rfl rfl rfl ?_
   refine g_skip rfl rfl rfl ?_
   refine g_step rfl rfl rfl rfl (e_pickF (v := .sc _) rfl rfl) trivial ?_
   refine g_end (ds := [77, 78, 79]) rfl rfl (hK105 _ ?_); clear hK105 K105
   refine pwp_seq_cond (t := false) rfl fun K156 hK156 => ⟨nofun, fun _ => ?_⟩
   refine pwp_skip ?_
   refine seq_norm (hK156 _ ?_); clear hK156 K156
   refine pwp_seq_seq ?_
   refine pwp_seq_gops rfl fun K157 hK157 => ?_
   refine g_begin ?_
   refine g_step rfl rfl rfl rfl (e_move (v := .sc _) rfl) trivial ?_
   refine g_step rfl rfl rfl rfl (e_ne rfl rfl) trivial ?_
   refine g_step rfl rfl rfl rfl (e_move (v := .sc _) rfl) trivial ?_
   refine g_cases (fun hb158 => ?_) (fun hb158 => ?_)
   ·have hb158R := hb158; simp only [z1, z2, z3, z4, z5, z6, ne_eq, z7, z8, z9, z10, z11, z12] at hb158
    refine g_skip rfl rfl rfl ?_
    refine g_skip rfl rfl rfl ?_
    refine g_step rfl rfl rfl rfl (e_pickT (v := .sc _) rfl rfl) trivial ?_
    refine g_step rfl rfl rfl rfl (e_move (v := .sc _) rfl) trivial ?_
    refine g_skip rfl rfl rfl ?_
    refine g_skip rfl rfl rfl ?_
    refine g_skip rfl rfl rfl ?_
    refine g_skip rfl rfl rfl ?_
    refine g_skip rfl rfl rfl ?_
    refine g_step rfl rfl rfl rfl (e_pickT (v := .sc _) rfl rfl) trivial ?_
    refine g_end (ds := [87, 88, 91, 92, 93, 94, 95]) rfl rfl (hK157 _ ?_); clear hK157 K157
    refine pwp_seq_cond (t := true) rfl fun K159 hK159 => ⟨fun _ => ?_, nofun⟩
    refine pwp_seq_plain rfl fun K160 hK160 => ?_
    refine p_step rfl (e_assign (v := .sc _) rfl) trivial ?_
    refine p_end (hK160 _ ?_); clear hK160 K160
    refine pwp_ret ?_
    refine ret_seq ?_
    refine end1 (v := .sc _) rfl ?_
    (exfalso; omega)
   have hb158R := hb158; simp only [z1, z2, z3, z4, z5, z6, ne_eq, z7, z8, z9, z10, z11, z12] at hb158; have hst : stockE xs = 0 := hb158
   refine g_step rfl rfl rfl rfl (e_move (v := .sc _) rfl) trivial ?_
   refine g_step rfl rfl rfl rfl (e_ne rfl rfl) trivial ?_
   refine g_step rfl rfl rfl rfl (e_pickF (v := .sc _) rfl rfl) trivial ?_
   refine g_step rfl rfl rfl rfl (e_move (v := .sc _) rfl) trivial ?_
   refine g_cases (fun hb161 => ?_) (fun hb161 => ?_)
   ·have hb161R := hb161; simp only [z1, z2, z3, z4, z5, z6, ne_eq, z7, z8, z9, z10, z11, z12] at hb161
    refine g_skip rfl rfl rfl ?_
    refine g_skip rfl rfl rfl ?_
    refine g_skip rfl rfl rfl ?_
    refine g_skip rfl rfl rfl ?_
    refine g_skip rfl rfl rfl ?_
    refine g_step rfl rfl rfl rfl (e_pickT (v := .sc _) rfl rfl) trivial ?_
    refine g_end (ds := [87, 88, 91, 92, 93, 94, 95]) rfl rfl (hK157 _ ?_); clear hK157 K157
    refine pwp_seq_cond (t := true) rfl fun K162 hK162 => ⟨fun _ => ?_, nofun⟩
    refine pwp_seq_plain rfl fun K163 hK163 => ?_
    refine p_step rfl (e_assign (v := .sc _) rfl) trivial ?_
    refine p_end (hK163 _ ?_); clear hK163 K163
    refine pwp_ret ?_
    refine ret_seq ?_
    refine end1 (v := .sc _) rfl ?_
    (exfalso; rw [moveR_ok] at *; omega)
   have hb161R := hb161; simp only [z1, z2, z3, z4, z5, z6, ne_eq, z7, z8, z9, z10, z11, z12] at hb161
   refine g_step rfl rfl rfl rfl (e_move (v := .sc _) rfl) trivial ?_
   refine g_step rfl rfl rfl rfl (e_move (v := .sc _) rfl) trivial ?_
   refine g_step rfl rfl rfl rfl (e_move (v := .sc _) rfl) trivial ?_
   refine g_step rfl rfl rfl rfl (e_add rfl rfl (by omega)) trivial ?_
   refine g_step rfl rfl rfl rfl (e_ne rfl rfl) trivial ?_
   refine g_step rfl rfl rfl rfl (e_pickF (v := .sc _) rfl rfl) trivial ?_
   refine g_end (ds := [87, 88, 91, 92, 93, 94, 95]) rfl rfl (hK157 _ ?_); clear hK157 K157
   refine pwp_seq_cond rfl fun K164 hK164 => ⟨fun hb165 => ?_, fun hb165 => ?_⟩
   ·have hb165R := hb165; simp only [z1, z2, z3, z4, z5, z6, ne_eq, z7, z8, z9, z10, z11, z12] at hb165
    refine pwp_seq_plain rfl fun K166 hK166 => ?_
    refine p_step rfl (e_assign (v := .sc _) rfl) trivial ?_
    refine p_end (hK166 _ ?_); clear hK166 K166
    refine pwp_ret ?_
    refine ret_seq ?_
    refine end1 (v := .sc _) rfl ?_
    (exfalso; have h9 := mq_0 (m := m) (p := p) (by intro h8; have h9 := h8.1; have h10 := h8.2; first | omega | contradiction) (by intro h8; have h9 := h8.1; have h10 := h8.2; first | omega | contradiction); omega)
   have hb165R := hb165; simp only [z1, z2, z3, z4, z5, z6, ne_eq, z7, z8, z9, z10, z11, z12] at hb165
   refine pwp_skip ?_
   refine seq_norm (hK164 _ ?_); clear hK164 K164
   refine pwp_seq_plain rfl fun K167 hK167 => ?_
   refine p_step rfl (e_loadHA (cs := Movement.enc (m)) (n := 6) rfl (hset_self _ _ _) (by kernel_rfl) (by kernel_rfl) (by kernel_rfl) (by exact Nat.zero_lt_one) (by decide) rfl) trivial ?_
   refine p_call rfl (.cons (inn_agg (Movement.pure (m))) .nil) (Undo _ (by omega)) ?_
   refine p_step rfl (e_move (v := .tup _) rfl) trivial ?_
   refine p_step rfl (e_ext (v := .agg _) rfl (by simp) rfl) trivial ?_
   refine p_step rfl (e_ext (v := .sc _) rfl (by simp) rfl) trivial ?_
   refine p_new rfl (e_alloc (cs := [.str ByteArray.empty, .int 0, .int 0, .int 0, .int 0, .int 0]) (n := 6) (by kernel_rfl) rfl (by decide)) (ob_alloc (by decide)) ?_
   refine p_store rfl (e_storeA rfl (hset_self _ _ _) rfl rfl rfl (by kernel_rfl) rfl (by kernel_rfl)) trivial ?_
   refine p_step rfl (e_assign (v := .sc _) rfl) trivial ?_
   refine p_end (hK167 _ ?_); clear hK167 K167
   refine pwp_seq_seq ?_
   refine pwp_seq_plain rfl fun K168 hK168 => ?_
   refine p_step rfl (e_move (v := .sc _) rfl) trivial ?_
   refine p_step rfl (e_ne rfl rfl) trivial ?_
   refine p_end (hK168 _ ?_); clear hK168 K168
   refine pwp_seq_cond rfl fun K169 hK169 => ⟨fun hb170 => ?_, fun hb170 => ?_⟩
   ·have hb170R := hb170; simp only [z1, z2, z3, z4, z5, z6, ne_eq, z7, z8, z9, z10, z11, z12] at hb170
    refine pwp_seq_plain rfl fun K171 hK171 => ?_
    refine p_step rfl (e_move (v := .sc _) rfl) trivial ?_
    refine p_step rfl (e_eq rfl rfl) trivial ?_
    refine p_step rfl (e_assign (v := .sc _) rfl) trivial ?_
    refine p_end (hK171 _ ?_); clear hK171 K171
    refine pwp_ret ?_
    refine ret_seq ?_
    refine end1 (v := .sc _) rfl ?_
    (refine out_b ?_; have h9 := hun.resolve_left (by assumption); simp [h9]; done)
   have hb170R := hb170; simp only [z1, z2, z3, z4, z5, z6, ne_eq, z7, z8, z9, z10, z11, z12] at hb170; have hu0 : undE m = 0 := hb170; have hback : moveR (moveR xs m).2 (undM m) = normR xs := by rw [undM_0 hu0]; exact move_back hst hm0 hu0
   refine pwp_skip ?_
   refine seq_norm (hK169 _ ?_); clear hK169 K169
   refine pwp_seq_plain rfl fun K172 hK172 => ?_
   refine p_step rfl (e_move (v := .lit _ _ _) rfl) trivial ?_
   refine p_step rfl (e_loadHA (cs := Movement.enc ((undM m))) (n := 6) rfl (hset_self _ _ _) (by kernel_rfl) (by kernel_rfl) (by kernel_rfl) (by exact Nat.zero_lt_one) (by decide) rfl) trivial ?_
   refine p_call rfl (.cons inn_lit (.cons (inn_agg (Movement.pure ((undM m)))) .nil)) (MoveS _ _ (Nat.le_trans (moveR_len xs m) (by decide)) (moveR_part hsh.2.2 (by omega)) (by rw [undM_0 (by omega)]; exact msz (by omega))) ?_
   refine p_step rfl (e_move (v := .tup _) rfl) trivial ?_
   refine p_step rfl (e_ext (v := .lit _ _ _) rfl (by simp) rfl) trivial ?_
   refine p_step rfl (e_ext (v := .sc _) rfl (by simp) rfl) trivial ?_
   refine p_step rfl (e_assign (v := .lit _ _ _) rfl) trivial ?_
   refine p_step rfl (e_assign (v := .sc _) rfl) trivial ?_
   refine p_end (hK172 _ ?_); clear hK172 K172
   refine pwp_seq_plain rfl fun K173 hK173 => ?_
   refine p_step rfl (e_move (v := .lit _ _ _) rfl) trivial ?_
   refine p_call rfl (.cons inn_lit .nil) (NormalS _ hsh.2.1 hsh.2.2) ?_
   refine p_step rfl (e_move (v := .tup _) rfl) trivial ?_
   refine p_step rfl (e_ext (v := .lit _ _ _) rfl (by simp) rfl) trivial ?_
   refine p_step rfl (e_ext (v := .sc _) rfl (by simp) rfl) trivial ?_
   refine p_step rfl (e_assign (v := .lit _ _ _) rfl) trivial ?_
   refine p_step rfl (e_assign (v := .sc _) rfl) trivial ?_
   refine p_end (hK173 _ ?_); clear hK173 K173
   refine pwp_seq_seq ?_
   refine pwp_seq_plain rfl fun K174 hK174 => ?_
   refine p_step rfl (e_move (v := .sc _) rfl) trivial ?_
   refine p_step rfl (e_ne rfl rfl) trivial ?_
   refine p_end (hK174 _ ?_); clear hK174 K174
   refine pwp_seq_cond rfl fun K175 hK175 => ⟨fun hb176 => ?_, fun hb176 => ?_⟩
   ·have hb176R := hb176; simp only [z1, z2, z3, z4, z5, z6, ne_eq, z7, z8, z9, z10, z11, z12] at hb176
    refine pwp_seq_plain rfl fun K177 hK177 => ?_
    refine p_step rfl (e_move (v := .sc _) rfl) trivial ?_
    refine p_step rfl (e_eq rfl rfl) trivial ?_
    refine p_step rfl (e_assign (v := .sc _) rfl) trivial ?_
    refine p_end (hK177 _ ?_); clear hK177 K177
    refine pwp_ret ?_
    refine ret_seq ?_
    refine end1 (v := .sc _) rfl ?_
    (refine out_b ?_; simp [norm_8 hst (by assumption)]; done)
   have hb176R := hb176; simp only [z1, z2, z3, z4, z5, z6, ne_eq, z7, z8, z9, z10, z11, z12] at hb176
   refine pwp_skip ?_
   refine seq_norm (hK175 _ ?_); clear hK175 K175
   refine pwp_seq_gops rfl fun K178 hK178 => ?_
   refine g_begin ?_
   refine g_step rfl rfl rfl rfl (e_move (v := .sc _) rfl) trivial ?_
   refine g_step rfl rfl rfl rfl (e_eq rfl rfl) trivial ?_
   refine g_step rfl rfl rfl rfl (e_move (v := .sc _) rfl) trivial ?_
   refine g_cases (fun hb179 => ?_) (fun hb179 => ?_)
   ·have hb179R := hb179; simp only [z1, z2, z3, z4, z5, z6, ne_eq, z7, z8, z9, z10, z11, z12] at hb179
    refine g_step rfl rfl rfl rfl (e_move (v := .lit _ _ _) rfl) trivial ?_
    refine g_step rfl rfl rfl rfl (e_move (v := .lit _ _ _) rfl) trivial ?_
    refine g_call rfl rfl rfl rfl (.cons inn_lit (.cons inn_lit .nil)) (SameStock _ _ (Nat.le_trans (moveR_len _ _) (by decide))) ?_
    refine g_step rfl rfl rfl rfl (e_pickT (v := .sc _) rfl rfl) trivial ?_
    refine g_step rfl rfl rfl rfl (e_assign (v := .sc _) rfl) trivial ?_
    refine g_end (ds := [124, 125, 126]) rfl rfl (hK178 _ ?_); clear hK178 K178
    refine pwp_ret ?_
    refine end1 (v := .sc _) rfl ?_
    (refine out_b ?_; rw [hback]; simp; done)
   have hb179R := hb179; simp only [z1, z2, z3, z4, z5, z6, ne_eq, z7, z8, z9, z10, z11, z12] at hb179; have hme := moveR_err hb179
   refine g_skip rfl rfl rfl ?_
   refine g_skip rfl rfl rfl ?_
   refine g_nocall rfl rfl rfl ?_
   refine g_step rfl rfl rfl rfl (e_pickF (v := .sc _) rfl rfl) trivial ?_
   refine g_step rfl rfl rfl rfl (e_assign (v := .sc _) rfl) trivial ?_
   refine g_end (ds := [124, 125, 126]) rfl rfl (hK178 _ ?_); clear hK178 K178
   refine pwp_ret ?_
   refine end1 (v := .sc _) rfl ?_
   (exfalso; have h9 : (moveR (moveR xs m).2 (undM m)).1 = (normR xs).1 := congrArg Prod.fst hback; omega)
  have hb26R := hb26; simp only [z1, z2, z3, z4, z5, z6, ne_eq, z7, z8, z9, z10, z11, z12] at hb26
  refine g_skip rfl rfl rfl ?_
  refine g_skip rfl rfl rfl ?_
  refine g_skip rfl rfl rfl ?_
  refine g_step rfl rfl rfl rfl (e_pickF (v := .sc _) rfl rfl) trivial ?_
  refine g_end (ds := [66, 67, 68]) rfl rfl (hK25 _ ?_); clear hK25 K25
  refine pwp_seq_cond (t := false) rfl fun K180 hK180 => ⟨nofun, fun _ => ?_⟩
  refine pwp_skip ?_
  refine seq_norm (hK180 _ ?_); clear hK180 K180
  refine pwp_seq_seq ?_
  refine pwp_seq_gops rfl fun K181 hK181 => ?_
  refine g_begin ?_
  refine g_step rfl rfl rfl rfl (e_move (v := .sc _) rfl) trivial ?_
  refine g_step rfl rfl rfl rfl (e_faP (pl := [(0, 1, false), (1, 1, false), (2, 1, false), (3, 1, false), (4, 1, false), (5, 1, false)]) rfl (by kernel_rfl) (by kernel_rfl) (by decide) rfl) trivial ?_
  refine g_step rfl rfl rfl rfl (e_loadH (v := .sc _) rfl (hset_self _ _ _) (by kernel_rfl) (by kernel_rfl) (by kernel_rfl) (by exact Nat.zero_lt_one) (by decide) rfl) trivial ?_
  refine g_step rfl rfl rfl rfl (e_seq rfl rfl) trivial ?_
  refine g_step rfl rfl rfl rfl (e_move (v := .sc _) rfl) trivial ?_
  refine g_cases (fun hb182 => ?_) (fun hb182 => ?_)
  ·have hb182R := hb182; simp only [z1, z2, z3, z4, z5, z6, ne_eq, z7, z8, z9, z10, z11, z12] at hb182
   refine g_step rfl rfl rfl rfl (e_faP (pl := [(0, 1, false), (1, 1, false), (2, 1, false), (3, 1, false), (4, 1, false), (5, 1, false)]) rfl (by kernel_rfl) (by kernel_rfl) (by decide) rfl) trivial ?_
   refine g_step rfl rfl rfl rfl (e_loadH (v := .sc _) rfl (hset_self _ _ _) (by kernel_rfl) (by kernel_rfl) (by kernel_rfl) (by exact Nat.zero_lt_one) (by decide) rfl) trivial ?_
   refine g_step rfl rfl rfl rfl (e_eq rfl rfl) trivial ?_
   refine g_step rfl rfl rfl rfl (e_pickT (v := .sc _) rfl rfl) trivial ?_
   refine g_end (ds := [77, 78, 79]) rfl rfl (hK181 _ ?_); clear hK181 K181
   refine pwp_seq_cond rfl fun K183 hK183 => ⟨fun hb184 => ?_, fun hb184 => ?_⟩
   ·have hb184R := hb184; simp only [z1, z2, z3, z4, z5, z6, ne_eq, z7, z8, z9, z10, z11, z12] at hb184
    refine pwp_plain rfl fun K185 hK185 => ?_
    refine p_step rfl (e_faP (pl := [(0, 1, false), (1, 1, false), (2, 1, false), (3, 1, false), (4, 1, false), (5, 1, false)]) rfl (by kernel_rfl) (by kernel_rfl) (by decide) rfl) trivial ?_
    refine p_step rfl (e_loadH (v := .sc _) rfl (hset_self _ _ _) (by kernel_rfl) (by kernel_rfl) (by kernel_rfl) (by exact Nat.zero_lt_one) (by decide) rfl) trivial ?_
    refine p_step rfl (e_neg rfl (by omega)) trivial ?_
    refine p_step rfl (e_assign (v := .sc _) rfl) trivial ?_
    refine p_end (hK185 _ ?_); clear hK185 K185
    refine seq_norm (hK183 _ ?_); clear hK183 K183
    refine pwp_seq_seq ?_
    refine pwp_seq_gops rfl fun K186 hK186 => ?_
    refine g_begin ?_
    refine g_step rfl rfl rfl rfl (e_move (v := .sc _) rfl) trivial ?_
    refine g_step rfl rfl rfl rfl (e_ne rfl rfl) trivial ?_
    refine g_step rfl rfl rfl rfl (e_move (v := .sc _) rfl) trivial ?_
    refine g_cases (fun hb187 => ?_) (fun hb187 => ?_)
    ·have hb187R := hb187; simp only [z1, z2, z3, z4, z5, z6, ne_eq, z7, z8, z9, z10, z11, z12] at hb187
     refine g_skip rfl rfl rfl ?_
     refine g_skip rfl rfl rfl ?_
     refine g_step rfl rfl rfl rfl (e_pickT (v := .sc _) rfl rfl) trivial ?_
     refine g_step rfl rfl rfl rfl (e_move (v := .sc _) rfl) trivial ?_
     refine g_skip rfl rfl rfl ?_
     refine g_skip rfl rfl rfl ?_
     refine g_skip rfl rfl rfl ?_
     refine g_skip rfl rfl rfl ?_
     refine g_skip rfl rfl rfl ?_
     refine g_step rfl rfl rfl rfl (e_pickT (v := .sc _) rfl rfl) trivial ?_
     refine g_end (ds := [87, 88, 91, 92, 93, 94, 95]) rfl rfl (hK186 _ ?_); clear hK186 K186
     refine pwp_seq_cond (t := true) rfl fun K188 hK188 => ⟨fun _ => ?_, nofun⟩
     refine pwp_seq_plain rfl fun K189 hK189 => ?_
     refine p_step rfl (e_assign (v := .sc _) rfl) trivial ?_
     refine p_end (hK189 _ ?_); clear hK189 K189
     refine pwp_ret ?_
     refine ret_seq ?_
     refine end1 (v := .sc _) rfl ?_
     (exfalso; omega)
    have hb187R := hb187; simp only [z1, z2, z3, z4, z5, z6, ne_eq, z7, z8, z9, z10, z11, z12] at hb187; have hst : stockE xs = 0 := hb187
    refine g_step rfl rfl rfl rfl (e_move (v := .sc _) rfl) trivial ?_
    refine g_step rfl rfl rfl rfl (e_ne rfl rfl) trivial ?_
    refine g_step rfl rfl rfl rfl (e_pickF (v := .sc _) rfl rfl) trivial ?_
    refine g_step rfl rfl rfl rfl (e_move (v := .sc _) rfl) trivial ?_
    refine g_cases (fun hb190 => ?_) (fun hb190 => ?_)
    ·have hb190R := hb190; simp only [z1, z2, z3, z4, z5, z6, ne_eq, z7, z8, z9, z10, z11, z12] at hb190
     refine g_skip rfl rfl rfl ?_
     refine g_skip rfl rfl rfl ?_
     refine g_skip rfl rfl rfl ?_
     refine g_skip rfl rfl rfl ?_
     refine g_skip rfl rfl rfl ?_
     refine g_step rfl rfl rfl rfl (e_pickT (v := .sc _) rfl rfl) trivial ?_
     refine g_end (ds := [87, 88, 91, 92, 93, 94, 95]) rfl rfl (hK186 _ ?_); clear hK186 K186
     refine pwp_seq_cond (t := true) rfl fun K191 hK191 => ⟨fun _ => ?_, nofun⟩
     refine pwp_seq_plain rfl fun K192 hK192 => ?_
     refine p_step rfl (e_assign (v := .sc _) rfl) trivial ?_
     refine p_end (hK192 _ ?_); clear hK192 K192
     refine pwp_ret ?_
     refine ret_seq ?_
     refine end1 (v := .sc _) rfl ?_
     (exfalso; rw [moveR_ok] at *; omega)
    have hb190R := hb190; simp only [z1, z2, z3, z4, z5, z6, ne_eq, z7, z8, z9, z10, z11, z12] at hb190
    refine g_step rfl rfl rfl rfl (e_move (v := .sc _) rfl) trivial ?_
    refine g_step rfl rfl rfl rfl (e_move (v := .sc _) rfl) trivial ?_
    refine g_step rfl rfl rfl rfl (e_move (v := .sc _) rfl) trivial ?_
    refine g_step rfl rfl rfl rfl (e_add rfl rfl (by omega)) trivial ?_
    refine g_step rfl rfl rfl rfl (e_ne rfl rfl) trivial ?_
    refine g_step rfl rfl rfl rfl (e_pickF (v := .sc _) rfl rfl) trivial ?_
    refine g_end (ds := [87, 88, 91, 92, 93, 94, 95]) rfl rfl (hK186 _ ?_); clear hK186 K186
    refine pwp_seq_cond rfl fun K193 hK193 => ⟨fun hb194 => ?_, fun hb194 => ?_⟩
    ·have hb194R := hb194; simp only [z1, z2, z3, z4, z5, z6, ne_eq, z7, z8, z9, z10, z11, z12] at hb194
     refine pwp_seq_plain rfl fun K195 hK195 => ?_
     refine p_step rfl (e_assign (v := .sc _) rfl) trivial ?_
     refine p_end (hK195 _ ?_); clear hK195 K195
     refine pwp_ret ?_
     refine ret_seq ?_
     refine end1 (v := .sc _) rfl ?_
     (exfalso; have h9 := mq_t (m := m) (p := p) (by assumption) (by assumption); omega)
    have hb194R := hb194; simp only [z1, z2, z3, z4, z5, z6, ne_eq, z7, z8, z9, z10, z11, z12] at hb194
    refine pwp_skip ?_
    refine seq_norm (hK193 _ ?_); clear hK193 K193
    refine pwp_seq_plain rfl fun K196 hK196 => ?_
    refine p_step rfl (e_loadHA (cs := Movement.enc (m)) (n := 6) rfl (hset_self _ _ _) (by kernel_rfl) (by kernel_rfl) (by kernel_rfl) (by exact Nat.zero_lt_one) (by decide) rfl) trivial ?_
    refine p_call rfl (.cons (inn_agg (Movement.pure (m))) .nil) (Undo _ (by omega)) ?_
    refine p_step rfl (e_move (v := .tup _) rfl) trivial ?_
    refine p_step rfl (e_ext (v := .agg _) rfl (by simp) rfl) trivial ?_
    refine p_step rfl (e_ext (v := .sc _) rfl (by simp) rfl) trivial ?_
    refine p_new rfl (e_alloc (cs := [.str ByteArray.empty, .int 0, .int 0, .int 0, .int 0, .int 0]) (n := 6) (by kernel_rfl) rfl (by decide)) (ob_alloc (by decide)) ?_
    refine p_store rfl (e_storeA rfl (hset_self _ _ _) rfl rfl rfl (by kernel_rfl) rfl (by kernel_rfl)) trivial ?_
    refine p_step rfl (e_assign (v := .sc _) rfl) trivial ?_
    refine p_end (hK196 _ ?_); clear hK196 K196
    refine pwp_seq_seq ?_
    refine pwp_seq_plain rfl fun K197 hK197 => ?_
    refine p_step rfl (e_move (v := .sc _) rfl) trivial ?_
    refine p_step rfl (e_ne rfl rfl) trivial ?_
    refine p_end (hK197 _ ?_); clear hK197 K197
    refine pwp_seq_cond rfl fun K198 hK198 => ⟨fun hb199 => ?_, fun hb199 => ?_⟩
    ·have hb199R := hb199; simp only [z1, z2, z3, z4, z5, z6, ne_eq, z7, z8, z9, z10, z11, z12] at hb199
     refine pwp_seq_plain rfl fun K200 hK200 => ?_
     refine p_step rfl (e_move (v := .sc _) rfl) trivial ?_
     refine p_step rfl (e_eq rfl rfl) trivial ?_
     refine p_step rfl (e_assign (v := .sc _) rfl) trivial ?_
     refine p_end (hK200 _ ?_); clear hK200 K200
     refine pwp_ret ?_
     refine ret_seq ?_
     refine end1 (v := .sc _) rfl ?_
     (exfalso; have h9 := mq_0 (m := m) (p := p) (by intro h8; have h9 := h8.1; have h10 := h8.2; first | omega | contradiction) (by intro h8; have h9 := h8.1; have h10 := h8.2; first | omega | contradiction); omega)
    have hb199R := hb199; simp only [z1, z2, z3, z4, z5, z6, ne_eq, z7, z8, z9, z10, z11, z12] at hb199; have hu0 : undE m = 0 := hb199; have hback : moveR (moveR xs m).2 (undM m) = normR xs := by rw [undM_0 hu0]; exact move_back hst hm0 hu0
    refine pwp_skip ?_
    refine seq_norm (hK198 _ ?_); clear hK198 K198
    refine pwp_seq_plain rfl fun K201 hK201 => ?_
    refine p_step rfl (e_move (v := .lit _ _ _) rfl) trivial ?_
    refine p_step rfl (e_loadHA (cs := Movement.enc ((undM m))) (n := 6) rfl (hset_self _ _ _) (by kernel_rfl) (by kernel_rfl) (by kernel_rfl) (by exact Nat.zero_lt_one) (by decide) rfl) trivial ?_
    refine p_call rfl (.cons inn_lit (.cons (inn_agg (Movement.pure ((undM m)))) .nil)) (MoveS _ _ (Nat.le_trans (moveR_len xs m) (by decide)) (moveR_part hsh.2.2 (by omega)) (by rw [undM_0 (by omega)]; exact msz (by omega))) ?_
    refine p_step rfl (e_move (v := .tup _) rfl) trivial ?_
    refine p_step rfl (e_ext (v := .lit _ _ _) rfl (by simp) rfl) trivial ?_
    refine p_step rfl (e_ext (v := .sc _) rfl (by simp) rfl) trivial ?_
    refine p_step rfl (e_assign (v := .lit _ _ _) rfl) trivial ?_
    refine p_step rfl (e_assign (v := .sc _) rfl) trivial ?_
    refine p_end (hK201 _ ?_); clear hK201 K201
    refine pwp_seq_plain rfl fun K202 hK202 => ?_
    refine p_step rfl (e_move (v := .lit _ _ _) rfl) trivial ?_
    refine p_call rfl (.cons inn_lit .nil) (NormalS _ hsh.2.1 hsh.2.2) ?_
    refine p_step rfl (e_move (v := .tup _) rfl) trivial ?_
    refine p_step rfl (e_ext (v := .lit _ _ _) rfl (by simp) rfl) trivial ?_
    refine p_step rfl (e_ext (v := .sc _) rfl (by simp) rfl) trivial ?_
    refine p_step rfl (e_assign (v := .lit _ _ _) rfl) trivial ?_
    refine p_step rfl (e_assign (v := .sc _) rfl) trivial ?_
    refine p_end (hK202 _ ?_); clear hK202 K202
    refine pwp_seq_seq ?_
    refine pwp_seq_plain rfl fun K203 hK203 => ?_
    refine p_step rfl (e_move (v := .sc _) rfl) trivial ?_
    refine p_step rfl (e_ne rfl rfl) trivial ?_
    refine p_end (hK203 _ ?_); clear hK203 K203
    refine pwp_seq_cond rfl fun K204 hK204 => ⟨fun hb205 => ?_, fun hb205 => ?_⟩
    ·have hb205R := hb205; simp only [z1, z2, z3, z4, z5, z6, ne_eq, z7, z8, z9, z10, z11, z12] at hb205
     refine pwp_seq_plain rfl fun K206 hK206 => ?_
     refine p_step rfl (e_move (v := .sc _) rfl) trivial ?_
     refine p_step rfl (e_eq rfl rfl) trivial ?_
     refine p_step rfl (e_assign (v := .sc _) rfl) trivial ?_
     refine p_end (hK206 _ ?_); clear hK206 K206
     refine pwp_ret ?_
     refine ret_seq ?_
     refine end1 (v := .sc _) rfl ?_
     (exfalso; have h9 := mq_0 (m := m) (p := p) (by intro h8; have h9 := h8.1; have h10 := h8.2; first | omega | contradiction) (by intro h8; have h9 := h8.1; have h10 := h8.2; first | omega | contradiction); omega)
    have hb205R := hb205; simp only [z1, z2, z3, z4, z5, z6, ne_eq, z7, z8, z9, z10, z11, z12] at hb205
    refine pwp_skip ?_
    refine seq_norm (hK204 _ ?_); clear hK204 K204
    refine pwp_seq_gops rfl fun K207 hK207 => ?_
    refine g_begin ?_
    refine g_step rfl rfl rfl rfl (e_move (v := .sc _) rfl) trivial ?_
    refine g_step rfl rfl rfl rfl (e_eq rfl rfl) trivial ?_
    refine g_step rfl rfl rfl rfl (e_move (v := .sc _) rfl) trivial ?_
    refine g_cases (fun hb208 => ?_) (fun hb208 => ?_)
    ·have hb208R := hb208; simp only [z1, z2, z3, z4, z5, z6, ne_eq, z7, z8, z9, z10, z11, z12] at hb208
     refine g_step rfl rfl rfl rfl (e_move (v := .lit _ _ _) rfl) trivial ?_
     refine g_step rfl rfl rfl rfl (e_move (v := .lit _ _ _) rfl) trivial ?_
     refine g_call rfl rfl rfl rfl (.cons inn_lit (.cons inn_lit .nil)) (SameStock _ _ (Nat.le_trans (moveR_len _ _) (by decide))) ?_
     refine g_step rfl rfl rfl rfl (e_pickT (v := .sc _) rfl rfl) trivial ?_
     refine g_step rfl rfl rfl rfl (e_assign (v := .sc _) rfl) trivial ?_
     refine g_end (ds := [124, 125, 126]) rfl rfl (hK207 _ ?_); clear hK207 K207
     refine pwp_ret ?_
     refine end1 (v := .sc _) rfl ?_
     (exfalso; have h9 := mq_0 (m := m) (p := p) (by intro h8; have h9 := h8.1; have h10 := h8.2; first | omega | contradiction) (by intro h8; have h9 := h8.1; have h10 := h8.2; first | omega | contradiction); omega)
    have hb208R := hb208; simp only [z1, z2, z3, z4, z5, z6, ne_eq, z7, z8, z9, z10, z11, z12] at hb208; have hme := moveR_err hb208
    refine g_skip rfl rfl rfl ?_
    refine g_skip rfl rfl rfl ?_
    refine g_nocall rfl rfl rfl ?_
    refine g_step rfl rfl rfl rfl (e_pickF (v := .sc _) rfl rfl) trivial ?_
    refine g_step rfl rfl rfl rfl (e_assign (v := .sc _) rfl) trivial ?_
    refine g_end (ds := [124, 125, 126]) rfl rfl (hK207 _ ?_); clear hK207 K207
    refine pwp_ret ?_
    refine end1 (v := .sc _) rfl ?_
    (exfalso; have h9 := mq_0 (m := m) (p := p) (by intro h8; have h9 := h8.1; have h10 := h8.2; first | omega | contradiction) (by intro h8; have h9 := h8.1; have h10 := h8.2; first | omega | contradiction); omega)
   have hb184R := hb184; simp only [z1, z2, z3, z4, z5, z6, ne_eq, z7, z8, z9, z10, z11, z12] at hb184
   refine pwp_skip ?_
   refine seq_norm (hK183 _ ?_); clear hK183 K183
   refine pwp_seq_seq ?_
   refine pwp_seq_gops rfl fun K209 hK209 => ?_
   refine g_begin ?_
   refine g_step rfl rfl rfl rfl (e_move (v := .sc _) rfl) trivial ?_
   refine g_step rfl rfl rfl rfl (e_ne rfl rfl) trivial ?_
   refine g_step rfl rfl rfl rfl (e_move (v := .sc _) rfl) trivial ?_
   refine g_cases (fun hb210 => ?_) (fun hb210 => ?_)
   ·have hb210R := hb210; simp only [z1, z2, z3, z4, z5, z6, ne_eq, z7, z8, z9, z10, z11, z12] at hb210
    refine g_skip rfl rfl rfl ?_
    refine g_skip rfl rfl rfl ?_
    refine g_step rfl rfl rfl rfl (e_pickT (v := .sc _) rfl rfl) trivial ?_
    refine g_step rfl rfl rfl rfl (e_move (v := .sc _) rfl) trivial ?_
    refine g_skip rfl rfl rfl ?_
    refine g_skip rfl rfl rfl ?_
    refine g_skip rfl rfl rfl ?_
    refine g_skip rfl rfl rfl ?_
    refine g_skip rfl rfl rfl ?_
    refine g_step rfl rfl rfl rfl (e_pickT (v := .sc _) rfl rfl) trivial ?_
    refine g_end (ds := [87, 88, 91, 92, 93, 94, 95]) rfl rfl (hK209 _ ?_); clear hK209 K209
    refine pwp_seq_cond (t := true) rfl fun K211 hK211 => ⟨fun _ => ?_, nofun⟩
    refine pwp_seq_plain rfl fun K212 hK212 => ?_
    refine p_step rfl (e_assign (v := .sc _) rfl) trivial ?_
    refine p_end (hK212 _ ?_); clear hK212 K212
    refine pwp_ret ?_
    refine ret_seq ?_
    refine end1 (v := .sc _) rfl ?_
    (exfalso; omega)
   have hb210R := hb210; simp only [z1, z2, z3, z4, z5, z6, ne_eq, z7, z8, z9, z10, z11, z12] at hb210; have hst : stockE xs = 0 := hb210
   refine g_step rfl rfl rfl rfl (e_move (v := .sc _) rfl) trivial ?_
   refine g_step rfl rfl rfl rfl (e_ne rfl rfl) trivial ?_
   refine g_step rfl rfl rfl rfl (e_pickF (v := .sc _) rfl rfl) trivial ?_
   refine g_step rfl rfl rfl rfl (e_move (v := .sc _) rfl) trivial ?_
   refine g_cases (fun hb213 => ?_) (fun hb213 => ?_)
   ·have hb213R := hb213; simp only [z1, z2, z3, z4, z5, z6, ne_eq, z7, z8, z9, z10, z11, z12] at hb213
    refine g_skip rfl rfl rfl ?_
    refine g_skip rfl rfl rfl ?_
    refine g_skip rfl rfl rfl ?_
    refine g_skip rfl rfl rfl ?_
    refine g_skip rfl rfl rfl ?_
    refine g_step rfl rfl rfl rfl (e_pickT (v := .sc _) rfl rfl) trivial ?_
    refine g_end (ds := [87, 88, 91, 92, 93, 94, 95]) rfl rfl (hK209 _ ?_); clear hK209 K209
    refine pwp_seq_cond (t := true) rfl fun K214 hK214 => ⟨fun _ => ?_, nofun⟩
    refine pwp_seq_plain rfl fun K215 hK215 => ?_
    refine p_step rfl (e_assign (v := .sc _) rfl) trivial ?_
    refine p_end (hK215 _ ?_); clear hK215 K215
    refine pwp_ret ?_
    refine ret_seq ?_
    refine end1 (v := .sc _) rfl ?_
    (exfalso; rw [moveR_ok] at *; omega)
   have hb213R := hb213; simp only [z1, z2, z3, z4, z5, z6, ne_eq, z7, z8, z9, z10, z11, z12] at hb213
   refine g_step rfl rfl rfl rfl (e_move (v := .sc _) rfl) trivial ?_
   refine g_step rfl rfl rfl rfl (e_move (v := .sc _) rfl) trivial ?_
   refine g_step rfl rfl rfl rfl (e_move (v := .sc _) rfl) trivial ?_
   refine g_step rfl rfl rfl rfl (e_add rfl rfl (by omega)) trivial ?_
   refine g_step rfl rfl rfl rfl (e_ne rfl rfl) trivial ?_
   refine g_step rfl rfl rfl rfl (e_pickF (v := .sc _) rfl rfl) trivial ?_
   refine g_end (ds := [87, 88, 91, 92, 93, 94, 95]) rfl rfl (hK209 _ ?_); clear hK209 K209
   refine pwp_seq_cond rfl fun K216 hK216 => ⟨fun hb217 => ?_, fun hb217 => ?_⟩
   ·have hb217R := hb217; simp only [z1, z2, z3, z4, z5, z6, ne_eq, z7, z8, z9, z10, z11, z12] at hb217
    refine pwp_seq_plain rfl fun K218 hK218 => ?_
    refine p_step rfl (e_assign (v := .sc _) rfl) trivial ?_
    refine p_end (hK218 _ ?_); clear hK218 K218
    refine pwp_ret ?_
    refine ret_seq ?_
    refine end1 (v := .sc _) rfl ?_
    (exfalso; have h9 := mq_0 (m := m) (p := p) (by intro h8; have h9 := h8.1; have h10 := h8.2; first | omega | contradiction) (by intro h8; have h9 := h8.1; have h10 := h8.2; first | omega | contradiction); omega)
   have hb217R := hb217; simp only [z1, z2, z3, z4, z5, z6, ne_eq, z7, z8, z9, z10, z11, z12] at hb217
   refine pwp_skip ?_
   refine seq_norm (hK216 _ ?_); clear hK216 K216
   refine pwp_seq_plain rfl fun K219 hK219 => ?_
   refine p_step rfl (e_loadHA (cs := Movement.enc (m)) (n := 6) rfl (hset_self _ _ _) (by kernel_rfl) (by kernel_rfl) (by kernel_rfl) (by exact Nat.zero_lt_one) (by decide) rfl) trivial ?_
   refine p_call rfl (.cons (inn_agg (Movement.pure (m))) .nil) (Undo _ (by omega)) ?_
   refine p_step rfl (e_move (v := .tup _) rfl) trivial ?_
   refine p_step rfl (e_ext (v := .agg _) rfl (by simp) rfl) trivial ?_
   refine p_step rfl (e_ext (v := .sc _) rfl (by simp) rfl) trivial ?_
   refine p_new rfl (e_alloc (cs := [.str ByteArray.empty, .int 0, .int 0, .int 0, .int 0, .int 0]) (n := 6) (by kernel_rfl) rfl (by decide)) (ob_alloc (by decide)) ?_
   refine p_store rfl (e_storeA rfl (hset_self _ _ _) rfl rfl rfl (by kernel_rfl) rfl (by kernel_rfl)) trivial ?_
   refine p_step rfl (e_assign (v := .sc _) rfl) trivial ?_
   refine p_end (hK219 _ ?_); clear hK219 K219
   refine pwp_seq_seq ?_
   refine pwp_seq_plain rfl fun K220 hK220 => ?_
   refine p_step rfl (e_move (v := .sc _) rfl) trivial ?_
   refine p_step rfl (e_ne rfl rfl) trivial ?_
   refine p_end (hK220 _ ?_); clear hK220 K220
   refine pwp_seq_cond rfl fun K221 hK221 => ⟨fun hb222 => ?_, fun hb222 => ?_⟩
   ·have hb222R := hb222; simp only [z1, z2, z3, z4, z5, z6, ne_eq, z7, z8, z9, z10, z11, z12] at hb222
    refine pwp_seq_plain rfl fun K223 hK223 => ?_
    refine p_step rfl (e_move (v := .sc _) rfl) trivial ?_
    refine p_step rfl (e_eq rfl rfl) trivial ?_
    refine p_step rfl (e_assign (v := .sc _) rfl) trivial ?_
    refine p_end (hK223 _ ?_); clear hK223 K223
    refine pwp_ret ?_
    refine ret_seq ?_
    refine end1 (v := .sc _) rfl ?_
    (refine out_b ?_; have h9 := hun.resolve_left (by assumption); simp [h9]; done)
   have hb222R := hb222; simp only [z1, z2, z3, z4, z5, z6, ne_eq, z7, z8, z9, z10, z11, z12] at hb222; have hu0 : undE m = 0 := hb222; have hback : moveR (moveR xs m).2 (undM m) = normR xs := by rw [undM_0 hu0]; exact move_back hst hm0 hu0
   refine pwp_skip ?_
   refine seq_norm (hK221 _ ?_); clear hK221 K221
   refine pwp_seq_plain rfl fun K224 hK224 => ?_
   refine p_step rfl (e_move (v := .lit _ _ _) rfl) trivial ?_
   refine p_step rfl (e_loadHA (cs := Movement.enc ((undM m))) (n := 6) rfl (hset_self _ _ _) (by kernel_rfl) (by kernel_rfl) (by kernel_rfl) (by exact Nat.zero_lt_one) (by decide) rfl) trivial ?_
   refine p_call rfl (.cons inn_lit (.cons (inn_agg (Movement.pure ((undM m)))) .nil)) (MoveS _ _ (Nat.le_trans (moveR_len xs m) (by decide)) (moveR_part hsh.2.2 (by omega)) (by rw [undM_0 (by omega)]; exact msz (by omega))) ?_
   refine p_step rfl (e_move (v := .tup _) rfl) trivial ?_
   refine p_step rfl (e_ext (v := .lit _ _ _) rfl (by simp) rfl) trivial ?_
   refine p_step rfl (e_ext (v := .sc _) rfl (by simp) rfl) trivial ?_
   refine p_step rfl (e_assign (v := .lit _ _ _) rfl) trivial ?_
   refine p_step rfl (e_assign (v := .sc _) rfl) trivial ?_
   refine p_end (hK224 _ ?_); clear hK224 K224
   refine pwp_seq_plain rfl fun K225 hK225 => ?_
   refine p_step rfl (e_move (v := .lit _ _ _) rfl) trivial ?_
   refine p_call rfl (.cons inn_lit .nil) (NormalS _ hsh.2.1 hsh.2.2) ?_
   refine p_step rfl (e_move (v := .tup _) rfl) trivial ?_
   refine p_step rfl (e_ext (v := .lit _ _ _) rfl (by simp) rfl) trivial ?_
   refine p_step rfl (e_ext (v := .sc _) rfl (by simp) rfl) trivial ?_
   refine p_step rfl (e_assign (v := .lit _ _ _) rfl) trivial ?_
   refine p_step rfl (e_assign (v := .sc _) rfl) trivial ?_
   refine p_end (hK225 _ ?_); clear hK225 K225
   refine pwp_seq_seq ?_
   refine pwp_seq_plain rfl fun K226 hK226 => ?_
   refine p_step rfl (e_move (v := .sc _) rfl) trivial ?_
   refine p_step rfl (e_ne rfl rfl) trivial ?_
   refine p_end (hK226 _ ?_); clear hK226 K226
   refine pwp_seq_cond rfl fun K227 hK227 => ⟨fun hb228 => ?_, fun hb228 => ?_⟩
   ·have hb228R := hb228; simp only [z1, z2, z3, z4, z5, z6, ne_eq, z7, z8, z9, z10, z11, z12] at hb228
    refine pwp_seq_plain rfl fun K229 hK229 => ?_
    refine p_step rfl (e_move (v := .sc _) rfl) trivial ?_
    refine p_step rfl (e_eq rfl rfl) trivial ?_
    refine p_step rfl (e_assign (v := .sc _) rfl) trivial ?_
    refine p_end (hK229 _ ?_); clear hK229 K229
    refine pwp_ret ?_
    refine ret_seq ?_
    refine end1 (v := .sc _) rfl ?_
    (refine out_b ?_; simp [norm_8 hst (by assumption)]; done)
   have hb228R := hb228; simp only [z1, z2, z3, z4, z5, z6, ne_eq, z7, z8, z9, z10, z11, z12] at hb228
   refine pwp_skip ?_
   refine seq_norm (hK227 _ ?_); clear hK227 K227
   refine pwp_seq_gops rfl fun K230 hK230 => ?_
   refine g_begin ?_
   refine g_step rfl rfl rfl rfl (e_move (v := .sc _) rfl) trivial ?_
   refine g_step rfl rfl rfl rfl (e_eq rfl rfl) trivial ?_
   refine g_step rfl rfl rfl rfl (e_move (v := .sc _) rfl) trivial ?_
   refine g_cases (fun hb231 => ?_) (fun hb231 => ?_)
   ·have hb231R := hb231; simp only [z1, z2, z3, z4, z5, z6, ne_eq, z7, z8, z9, z10, z11, z12] at hb231
    refine g_step rfl rfl rfl rfl (e_move (v := .lit _ _ _) rfl) trivial ?_
    refine g_step rfl rfl rfl rfl (e_move (v := .lit _ _ _) rfl) trivial ?_
    refine g_call rfl rfl rfl rfl (.cons inn_lit (.cons inn_lit .nil)) (SameStock _ _ (Nat.le_trans (moveR_len _ _) (by decide))) ?_
    refine g_step rfl rfl rfl rfl (e_pickT (v := .sc _) rfl rfl) trivial ?_
    refine g_step rfl rfl rfl rfl (e_assign (v := .sc _) rfl) trivial ?_
    refine g_end (ds := [124, 125, 126]) rfl rfl (hK230 _ ?_); clear hK230 K230
    refine pwp_ret ?_
    refine end1 (v := .sc _) rfl ?_
    (refine out_b ?_; rw [hback]; simp; done)
   have hb231R := hb231; simp only [z1, z2, z3, z4, z5, z6, ne_eq, z7, z8, z9, z10, z11, z12] at hb231; have hme := moveR_err hb231
   refine g_skip rfl rfl rfl ?_
   refine g_skip rfl rfl rfl ?_
   refine g_nocall rfl rfl rfl ?_
   refine g_step rfl rfl rfl rfl (e_pickF (v := .sc _) rfl rfl) trivial ?_
   refine g_step rfl rfl rfl rfl (e_assign (v := .sc _) rfl) trivial ?_
   refine g_end (ds := [124, 125, 126]) rfl rfl (hK230 _ ?_); clear hK230 K230
   refine pwp_ret ?_
   refine end1 (v := .sc _) rfl ?_
   (exfalso; have h9 : (moveR (moveR xs m).2 (undM m)).1 = (normR xs).1 := congrArg Prod.fst hback; omega)
  have hb182R := hb182; simp only [z1, z2, z3, z4, z5, z6, ne_eq, z7, z8, z9, z10, z11, z12] at hb182
  refine g_skip rfl rfl rfl ?_
  refine g_skip rfl rfl rfl ?_
  refine g_skip rfl rfl rfl ?_
  refine g_step rfl rfl rfl rfl (e_pickF (v := .sc _) rfl rfl) trivial ?_
  refine g_end (ds := [77, 78, 79]) rfl rfl (hK181 _ ?_); clear hK181 K181
  refine pwp_seq_cond (t := false) rfl fun K232 hK232 => ⟨nofun, fun _ => ?_⟩
  refine pwp_skip ?_
  refine seq_norm (hK232 _ ?_); clear hK232 K232
  refine pwp_seq_seq ?_
  refine pwp_seq_gops rfl fun K233 hK233 => ?_
  refine g_begin ?_
  refine g_step rfl rfl rfl rfl (e_move (v := .sc _) rfl) trivial ?_
  refine g_step rfl rfl rfl rfl (e_ne rfl rfl) trivial ?_
  refine g_step rfl rfl rfl rfl (e_move (v := .sc _) rfl) trivial ?_
  refine g_cases (fun hb234 => ?_) (fun hb234 => ?_)
  ·have hb234R := hb234; simp only [z1, z2, z3, z4, z5, z6, ne_eq, z7, z8, z9, z10, z11, z12] at hb234
   refine g_skip rfl rfl rfl ?_
   refine g_skip rfl rfl rfl ?_
   refine g_step rfl rfl rfl rfl (e_pickT (v := .sc _) rfl rfl) trivial ?_
   refine g_step rfl rfl rfl rfl (e_move (v := .sc _) rfl) trivial ?_
   refine g_skip rfl rfl rfl ?_
   refine g_skip rfl rfl rfl ?_
   refine g_skip rfl rfl rfl ?_
   refine g_skip rfl rfl rfl ?_
   refine g_skip rfl rfl rfl ?_
   refine g_step rfl rfl rfl rfl (e_pickT (v := .sc _) rfl rfl) trivial ?_
   refine g_end (ds := [87, 88, 91, 92, 93, 94, 95]) rfl rfl (hK233 _ ?_); clear hK233 K233
   refine pwp_seq_cond (t := true) rfl fun K235 hK235 => ⟨fun _ => ?_, nofun⟩
   refine pwp_seq_plain rfl fun K236 hK236 => ?_
   refine p_step rfl (e_assign (v := .sc _) rfl) trivial ?_
   refine p_end (hK236 _ ?_); clear hK236 K236
   refine pwp_ret ?_
   refine ret_seq ?_
   refine end1 (v := .sc _) rfl ?_
   (exfalso; omega)
  have hb234R := hb234; simp only [z1, z2, z3, z4, z5, z6, ne_eq, z7, z8, z9, z10, z11, z12] at hb234; have hst : stockE xs = 0 := hb234
  refine g_step rfl rfl rfl rfl (e_move (v := .sc _) rfl) trivial ?_
  refine g_step rfl rfl rfl rfl (e_ne rfl rfl) trivial ?_
  refine g_step rfl rfl rfl rfl (e_pickF (v := .sc _) rfl rfl) trivial ?_
  refine g_step rfl rfl rfl rfl (e_move (v := .sc _) rfl) trivial ?_
  refine g_cases (fun hb237 => ?_) (fun hb237 => ?_)
  ·have hb237R := hb237; simp only [z1, z2, z3, z4, z5, z6, ne_eq, z7, z8, z9, z10, z11, z12] at hb237
   refine g_skip rfl rfl rfl ?_
   refine g_skip rfl rfl rfl ?_
   refine g_skip rfl rfl rfl ?_
   refine g_skip rfl rfl rfl ?_
   refine g_skip rfl rfl rfl ?_
   refine g_step rfl rfl rfl rfl (e_pickT (v := .sc _) rfl rfl) trivial ?_
   refine g_end (ds := [87, 88, 91, 92, 93, 94, 95]) rfl rfl (hK233 _ ?_); clear hK233 K233
   refine pwp_seq_cond (t := true) rfl fun K238 hK238 => ⟨fun _ => ?_, nofun⟩
   refine pwp_seq_plain rfl fun K239 hK239 => ?_
   refine p_step rfl (e_assign (v := .sc _) rfl) trivial ?_
   refine p_end (hK239 _ ?_); clear hK239 K239
   refine pwp_ret ?_
   refine ret_seq ?_
   refine end1 (v := .sc _) rfl ?_
   (exfalso; rw [moveR_ok] at *; omega)
  have hb237R := hb237; simp only [z1, z2, z3, z4, z5, z6, ne_eq, z7, z8, z9, z10, z11, z12] at hb237
  refine g_step rfl rfl rfl rfl (e_move (v := .sc _) rfl) trivial ?_
  refine g_step rfl rfl rfl rfl (e_move (v := .sc _) rfl) trivial ?_
  refine g_step rfl rfl rfl rfl (e_move (v := .sc _) rfl) trivial ?_
  refine g_step rfl rfl rfl rfl (e_add rfl rfl (by omega)) trivial ?_
  refine g_step rfl rfl rfl rfl (e_ne rfl rfl) trivial ?_
  refine g_step rfl rfl rfl rfl (e_pickF (v := .sc _) rfl rfl) trivial ?_
  refine g_end (ds := [87, 88, 91, 92, 93, 94, 95]) rfl rfl (hK233 _ ?_); clear hK233 K233
  refine pwp_seq_cond rfl fun K240 hK240 => ⟨fun hb241 => ?_, fun hb241 => ?_⟩
  ·have hb241R := hb241; simp only [z1, z2, z3, z4, z5, z6, ne_eq, z7, z8, z9, z10, z11, z12] at hb241
   refine pwp_seq_plain rfl fun K242 hK242 => ?_
   refine p_step rfl (e_assign (v := .sc _) rfl) trivial ?_
   refine p_end (hK242 _ ?_); clear hK242 K242
   refine pwp_ret ?_
   refine ret_seq ?_
   refine end1 (v := .sc _) rfl ?_
   (exfalso; have h9 := mq_0 (m := m) (p := p) (by intro h8; have h9 := h8.1; have h10 := h8.2; first | omega | contradiction) (by intro h8; have h9 := h8.1; have h10 := h8.2; first | omega | contradiction); omega)
  have hb241R := hb241; simp only [z1, z2, z3, z4, z5, z6, ne_eq, z7, z8, z9, z10, z11, z12] at hb241
  refine pwp_skip ?_
  refine seq_norm (hK240 _ ?_); clear hK240 K240
  refine pwp_seq_plain rfl fun K243 hK243 => ?_
  refine p_step rfl (e_loadHA (cs := Movement.enc (m)) (n := 6) rfl (hset_self _ _ _) (by kernel_rfl) (by kernel_rfl) (by kernel_rfl) (by exact Nat.zero_lt_one) (by decide) rfl) trivial ?_
  refine p_call rfl (.cons (inn_agg (Movement.pure (m))) .nil) (Undo _ (by omega)) ?_
  refine p_step rfl (e_move (v := .tup _) rfl) trivial ?_
  refine p_step rfl (e_ext (v := .agg _) rfl (by simp) rfl) trivial ?_
  refine p_step rfl (e_ext (v := .sc _) rfl (by simp) rfl) trivial ?_
  refine p_new rfl (e_alloc (cs := [.str ByteArray.empty, .int 0, .int 0, .int 0, .int 0, .int 0]) (n := 6) (by kernel_rfl) rfl (by decide)) (ob_alloc (by decide)) ?_
  refine p_store rfl (e_storeA rfl (hset_self _ _ _) rfl rfl rfl (by kernel_rfl) rfl (by kernel_rfl)) trivial ?_
  refine p_step rfl (e_assign (v := .sc _) rfl) trivial ?_
  refine p_end (hK243 _ ?_); clear hK243 K243
  refine pwp_seq_seq ?_
  refine pwp_seq_plain rfl fun K244 hK244 => ?_
  refine p_step rfl (e_move (v := .sc _) rfl) trivial ?_
  refine p_step rfl (e_ne rfl rfl) trivial ?_
  refine p_end (hK244 _ ?_); clear hK244 K244
  refine pwp_seq_cond rfl fun K245 hK245 => ⟨fun hb246 => ?_, fun hb246 => ?_⟩
  ·have hb246R := hb246; simp only [z1, z2, z3, z4, z5, z6, ne_eq, z7, z8, z9, z10, z11, z12] at hb246
   refine pwp_seq_plain rfl fun K247 hK247 => ?_
   refine p_step rfl (e_move (v := .sc _) rfl) trivial ?_
   refine p_step rfl (e_eq rfl rfl) trivial ?_
   refine p_step rfl (e_assign (v := .sc _) rfl) trivial ?_
   refine p_end (hK247 _ ?_); clear hK247 K247
   refine pwp_ret ?_
   refine ret_seq ?_
   refine end1 (v := .sc _) rfl ?_
   (refine out_b ?_; have h9 := hun.resolve_left (by assumption); simp [h9]; done)
  have hb246R := hb246; simp only [z1, z2, z3, z4, z5, z6, ne_eq, z7, z8, z9, z10, z11, z12] at hb246; have hu0 : undE m = 0 := hb246; have hback : moveR (moveR xs m).2 (undM m) = normR xs := by rw [undM_0 hu0]; exact move_back hst hm0 hu0
  refine pwp_skip ?_
  refine seq_norm (hK245 _ ?_); clear hK245 K245
  refine pwp_seq_plain rfl fun K248 hK248 => ?_
  refine p_step rfl (e_move (v := .lit _ _ _) rfl) trivial ?_
  refine p_step rfl (e_loadHA (cs := Movement.enc ((undM m))) (n := 6) rfl (hset_self _ _ _) (by kernel_rfl) (by kernel_rfl) (by kernel_rfl) (by exact Nat.zero_lt_one) (by decide) rfl) trivial ?_
  refine p_call rfl (.cons inn_lit (.cons (inn_agg (Movement.pure ((undM m)))) .nil)) (MoveS _ _ (Nat.le_trans (moveR_len xs m) (by decide)) (moveR_part hsh.2.2 (by omega)) (by rw [undM_0 (by omega)]; exact msz (by omega))) ?_
  refine p_step rfl (e_move (v := .tup _) rfl) trivial ?_
  refine p_step rfl (e_ext (v := .lit _ _ _) rfl (by simp) rfl) trivial ?_
  refine p_step rfl (e_ext (v := .sc _) rfl (by simp) rfl) trivial ?_
  refine p_step rfl (e_assign (v := .lit _ _ _) rfl) trivial ?_
  refine p_step rfl (e_assign (v := .sc _) rfl) trivial ?_
  refine p_end (hK248 _ ?_); clear hK248 K248
  refine pwp_seq_plain rfl fun K249 hK249 => ?_
  refine p_step rfl (e_move (v := .lit _ _ _) rfl) trivial ?_
  refine p_call rfl (.cons inn_lit .nil) (NormalS _ hsh.2.1 hsh.2.2) ?_
  refine p_step rfl (e_move (v := .tup _) rfl) trivial ?_
  refine p_step rfl (e_ext (v := .lit _ _ _) rfl (by simp) rfl) trivial ?_
  refine p_step rfl (e_ext (v := .sc _) rfl (by simp) rfl) trivial ?_
  refine p_step rfl (e_assign (v := .lit _ _ _) rfl) trivial ?_
  refine p_step rfl (e_assign (v := .sc _) rfl) trivial ?_
  refine p_end (hK249 _ ?_); clear hK249 K249
  refine pwp_seq_seq ?_
  refine pwp_seq_plain rfl fun K250 hK250 => ?_
  refine p_step rfl (e_move (v := .sc _) rfl) trivial ?_
  refine p_step rfl (e_ne rfl rfl) trivial ?_
  refine p_end (hK250 _ ?_); clear hK250 K250
  refine pwp_seq_cond rfl fun K251 hK251 => ⟨fun hb252 => ?_, fun hb252 => ?_⟩
  ·have hb252R := hb252; simp only [z1, z2, z3, z4, z5, z6, ne_eq, z7, z8, z9, z10, z11, z12] at hb252
   refine pwp_seq_plain rfl fun K253 hK253 => ?_
   refine p_step rfl (e_move (v := .sc _) rfl) trivial ?_
   refine p_step rfl (e_eq rfl rfl) trivial ?_
   refine p_step rfl (e_assign (v := .sc _) rfl) trivial ?_
   refine p_end (hK253 _ ?_); clear hK253 K253
   refine pwp_ret ?_
   refine ret_seq ?_
   refine end1 (v := .sc _) rfl ?_
   (refine out_b ?_; simp [norm_8 hst (by assumption)]; done)
  have hb252R := hb252; simp only [z1, z2, z3, z4, z5, z6, ne_eq, z7, z8, z9, z10, z11, z12] at hb252
  refine pwp_skip ?_
  refine seq_norm (hK251 _ ?_); clear hK251 K251
  refine pwp_seq_gops rfl fun K254 hK254 => ?_
  refine g_begin ?_
  refine g_step rfl rfl rfl rfl (e_move (v := .sc _) rfl) trivial ?_
  refine g_step rfl rfl rfl rfl (e_eq rfl rfl) trivial ?_
  refine g_step rfl rfl rfl rfl (e_move (v := .sc _) rfl) trivial ?_
  refine g_cases (fun hb255 => ?_) (fun hb255 => ?_)
  ·have hb255R := hb255; simp only [z1, z2, z3, z4, z5, z6, ne_eq, z7, z8, z9, z10, z11, z12] at hb255
   refine g_step rfl rfl rfl rfl (e_move (v := .lit _ _ _) rfl) trivial ?_
   refine g_step rfl rfl rfl rfl (e_move (v := .lit _ _ _) rfl) trivial ?_
   refine g_call rfl rfl rfl rfl (.cons inn_lit (.cons inn_lit .nil)) (SameStock _ _ (Nat.le_trans (moveR_len _ _) (by decide))) ?_
   refine g_step rfl rfl rfl rfl (e_pickT (v := .sc _) rfl rfl) trivial ?_
   refine g_step rfl rfl rfl rfl (e_assign (v := .sc _) rfl) trivial ?_
   refine g_end (ds := [124, 125, 126]) rfl rfl (hK254 _ ?_); clear hK254 K254
   refine pwp_ret ?_
   refine end1 (v := .sc _) rfl ?_
   (refine out_b ?_; rw [hback]; simp; done)
  have hb255R := hb255; simp only [z1, z2, z3, z4, z5, z6, ne_eq, z7, z8, z9, z10, z11, z12] at hb255; have hme := moveR_err hb255
  refine g_skip rfl rfl rfl ?_
  refine g_skip rfl rfl rfl ?_
  refine g_nocall rfl rfl rfl ?_
  refine g_step rfl rfl rfl rfl (e_pickF (v := .sc _) rfl rfl) trivial ?_
  refine g_step rfl rfl rfl rfl (e_assign (v := .sc _) rfl) trivial ?_
  refine g_end (ds := [124, 125, 126]) rfl rfl (hK254 _ ?_); clear hK254 K254
  refine pwp_ret ?_
  refine end1 (v := .sc _) rfl ?_
  (exfalso; have h9 : (moveR (moveR xs m).2 (undM m)).1 = (normR xs).1 := congrArg Prod.fst hback; omega)

end Go.Proofs.YtigdmkhdmbbfiaaDoor
