import Derived.Test.YtigdmkhdmbbfiaaDoorDmvA
import Derived.Test.YtigdmkhdmbbfiaaDoorAwake
/- Movements one after the other; the law of rows. No conditions. -/
set_option linter.unusedSimpArgs false
set_option linter.unusedVariables false
set_option maxRecDepth 100000
set_option maxHeartbeats 8000000
namespace Go.Proofs.YtigdmkhdmbbfiaaDoor
open Go Go.Pv

/-! ### What a stock behind a movement is -/
theorem lstG_mem {m : Sto} : ∀ (ks : List Kx) (acc : List Stock), (lstG m acc ks).1 = 0 → ∀ e ∈ (lstG m acc ks).2, e ∈ acc ∨ ∃ k ∈ ks, e = ⟨k.part, k.place, k.state, getS k m⟩ ∧ 0 < getS k m ∧ getS k m ≤ 1000000
  | [], acc, _, e, he => .inl he
  | k :: ks, acc, h, e, he => by
    unfold lstG at h he
    by_cases h1 : 1000000 < getS k m
    · rw [if_pos h1] at h; cases h
    · rw [if_neg h1] at h he
      rcases lstG_mem ks _ h e he with h2 | ⟨k', h2, h3⟩
      · by_cases h4 : 0 < getS k m
        · rw [if_pos h4] at h2
          rcases List.mem_append.1 h2 with h5 | h5
          · exact .inl h5
          · simp only [List.mem_singleton] at h5
            exact .inr ⟨k, List.mem_cons_self, h5, h4, by omega⟩
        · rw [if_neg h4] at h2; exact .inl h2
      · exact .inr ⟨k', List.mem_cons_of_mem _ h2, h3⟩
theorem keysS_mem {m : Sto} {k : Kx} : k ∈ keysS m ↔ k ∈ m.map (·.1) := by
  unfold keysS
  constructor
  · intro h
    obtain ⟨y, hy, rfl⟩ := List.mem_map.1 h
    rw [(sortSh_perm _).mem_iff] at hy
    obtain ⟨e, he, rfl⟩ := List.mem_map.1 hy
    exact List.mem_map.2 ⟨e, he, rfl⟩
  · intro h
    obtain ⟨e, he, rfl⟩ := List.mem_map.1 h
    refine List.mem_map.2 ⟨kSh e.1, ?_, rfl⟩
    rw [(sortSh_perm _).mem_iff]
    exact List.mem_map.2 ⟨e, he, rfl⟩
theorem listS_cases (m : Sto) : ((listS m).1 = 0 ∧ (lstG m [] (keysS m)).1 = 0 ∧ listS m = lstG m [] (keysS m) ∧ (listS m).2.length ≤ 200) ∨ (listS m).1 ≠ 0 ∧ (listS m).2 = [] := by
  unfold listS
  dsimp only
  by_cases h : (lstG m [] (keysS m)).1 = 0
  · rw [if_pos h]
    by_cases h2 : 200 < (lstG m [] (keysS m)).2.length
    · rw [if_pos h2]; exact .inr ⟨by decide, rfl⟩
    · rw [if_neg h2]; exact .inl ⟨h, h, rfl, by omega⟩
  · rw [if_neg h]; exact .inr ⟨h, rfl⟩
theorem listS_mem {m : Sto} : ∀ e ∈ (listS m).2, keyS e ∈ m.map (·.1) ∧ 0 < e.count ∧ e.count ≤ 1000000 := fun e he => by
  rcases listS_cases m with ⟨_, h2, h3, _⟩ | ⟨_, h2⟩
  · rw [h3] at he
    rcases lstG_mem _ _ h2 e he with h4 | ⟨k, h4, rfl, h5⟩
    · simp at h4
    · exact ⟨keysS_mem.1 h4, h5⟩
  · rw [h2] at he; simp at he
theorem moveR_mem {xs : List Stock} {m : Movement} : ∀ e ∈ (moveR xs m).2, (stockE xs = 0 ∧ mvE m = 0) ∧ (∃ x ∈ xs ++ (extF m ++ extT m), keyS e = keyS x) ∧ 0 < e.count ∧ e.count ≤ 1000000 := fun e he => by
  unfold moveR at he
  by_cases h1 : stockE xs = 0
  · rw [if_neg (by simpa using h1)] at he
    by_cases h2 : mvE m = 0
    · rw [if_neg (by simpa using h2)] at he
      by_cases h3 : lack xs m
      · rw [if_pos h3] at he; simp at he
      · rw [if_neg h3] at he
        obtain ⟨h4, h5⟩ := listS_mem e he
        rw [sumS_keys] at h4
        rcases h4 with h4 | h4
        · simp at h4
        · obtain ⟨x, hx, hk⟩ := List.mem_map.1 h4
          exact ⟨⟨h1, h2⟩, ⟨x, hx, hk.symm⟩, h5⟩
    · rw [if_pos h2] at he; simp at he
  · rw [if_pos h1] at he; simp at he
theorem keyS_part {x y : Stock} (h : keyS x = keyS y) : x.part = y.part ∧ x.place = y.place ∧ x.state = y.state := by
  unfold keyS at h; simpa using h
theorem moveR_part {xs : List Stock} {m : Movement} (hs : ∀ x ∈ xs, x.part.size ≤ 30) (hm : m.part.size ≤ 30) : ∀ e ∈ (moveR xs m).2, e.part.size ≤ 30 := fun e he => by
  obtain ⟨_, ⟨x, hx, hk⟩, _⟩ := moveR_mem e he
  rw [(keyS_part hk).1]
  rcases List.mem_append.1 hx with hx | hx
  · exact hs x hx
  · exact ext_size hm x hx
theorem goS_name : ∀ {l : List Stock}, goS l = 0 → ∀ x ∈ l, isNm x.part = true
  | [], _, x, hx => by simp at hx
  | y :: l, h, x, hx => by
    unfold goS at h
    split at h
    · cases h
    · rename_i h1
      split at h
      · cases h
      · rcases List.mem_cons.1 hx with rfl | hx
        · simpa using h1
        · exact goS_name h x hx
theorem goS_of : ∀ {l : List Stock}, (∀ x ∈ l, isNm x.part = true ∧ ¬ badS x) → goS l = 0
  | [], _ => rfl
  | y :: l, h => by
    unfold goS
    rw [if_neg (by simp [(h y List.mem_cons_self).1]), if_neg (h y List.mem_cons_self).2]
    exact goS_of fun x hx => h x (List.mem_cons_of_mem _ hx)
theorem stockE_name {l : List Stock} (h : stockE l = 0) : ∀ x ∈ l, isNm x.part = true := by
  unfold stockE at h
  split at h
  · cases h
  · exact goS_name h
theorem moveR_len (xs : List Stock) (m : Movement) : (moveR xs m).2.length ≤ 200 := by
  unfold moveR
  split
  · simp
  · split
    · simp
    · split
      · simp
      · rcases listS_cases (sumS [] (xs ++ (extF m ++ extT m))) with ⟨_, _, _, h⟩ | ⟨_, h⟩
        · exact h
        · rw [h]; simp
theorem ext_ok {m : Movement} (h : mvE m = 0) : ∀ x ∈ extF m ++ extT m, isNm x.part = true ∧ (0 ≤ x.place ∧ x.place ≤ 99) ∧ 0 ≤ x.state ∧ x.state ≤ 3 := fun x hx => by
  obtain ⟨h1, h2, _⟩ := mvE_ok h
  unfold rngQ at h2
  rcases List.mem_append.1 hx with hx | hx
  · unfold extF at hx
    split at hx
    · rename_i h3
      simp only [List.mem_singleton] at hx; subst hx
      exact ⟨h1, ⟨show 0 ≤ m.fro by omega, show m.fro ≤ 99 by omega⟩, show 0 ≤ m.before by omega, show m.before ≤ 3 by omega⟩
    · simp at hx
  · unfold extT at hx
    split at hx
    · rename_i h3
      simp only [List.mem_singleton] at hx; subst hx
      exact ⟨h1, ⟨show 0 ≤ m.til by omega, show m.til ≤ 99 by omega⟩, show 0 ≤ m.after by omega, show m.after ≤ 3 by omega⟩
    · simp at hx
theorem moveR_ok {xs : List Stock} {m : Movement} : stockE (moveR xs m).2 = 0 := by
  rw [stockE_le (moveR_len xs m)]
  refine goS_of fun e he => ?_
  obtain ⟨⟨h1, h2⟩, ⟨x, hx, hk⟩, h3⟩ := moveR_mem e he
  obtain ⟨k1, k2, k3⟩ := keyS_part hk
  unfold badS
  rw [k1, k2, k3]
  rcases List.mem_append.1 hx with hx | hx
  · have := (stockE_ok h1).2 x hx
    exact ⟨stockE_name h1 x hx, by omega⟩
  · have := ext_ok h2 x hx
    exact ⟨this.1, by omega⟩
/-! ### Movements one after the other -/
def goMv (F : List Stock → Movement → Int × List Stock) (xs : List Stock) (i : Int) : List Movement → List Stock × Int × Int
  | [] => (xs, i, 0)
  | m :: l => if ¬ (F xs m).1 = 0 then ([], i, (F xs m).1) else goMv F (F xs m).2 (i + 1) l
theorem gm_1 {F : List Stock → Movement → Int × List Stock} {xs : List Stock} {i : Int} {m : Movement} {l : List Movement} {R : List Stock × Int × Int} (h : R = goMv F xs i (m :: l)) (h2 : ¬ (F xs m).1 = 0) : R = ([], i, (F xs m).1) := by rw [h, goMv, if_pos h2]
theorem gm_2 {F : List Stock → Movement → Int × List Stock} {xs : List Stock} {i : Int} {m : Movement} {l : List Movement} {R : List Stock × Int × Int} (h : R = goMv F xs i (m :: l)) (h2 : (F xs m).1 = 0) : R = goMv F (F xs m).2 (i + 1) l := by rw [h, goMv, if_neg (by simpa using h2)]
def movesR (xs : List Stock) (ms : List Movement) : List Stock × Int × Int := if ms.length = 0 then ((normR xs).2, 0, (normR xs).1) else goMv moveR xs 0 ms
def refMovesR (xs : List Stock) (ms : List Movement) : List Stock × Int × Int := if ms.length = 0 then ((settS (putF [] xs)).2, 0, (settS (putF [] xs)).1) else goMv refMoveR xs 0 ms
theorem mvs_0 {xs : List Stock} {ms : List Movement} (h : ms.length = 0) : movesR xs ms = ((normR xs).2, 0, (normR xs).1) := if_pos h
theorem mvs_1 {xs : List Stock} {ms : List Movement} {R : List Stock × Int × Int} (h : ¬ ms.length = 0) (h2 : goMv moveR xs 0 ms = R) : movesR xs ms = R := by rw [movesR, if_neg h, h2]
theorem rms_0 {xs : List Stock} {ms : List Movement} (h : ms.length = 0) : refMovesR xs ms = ((settS (putF [] xs)).2, 0, (settS (putF [] xs)).1) := if_pos h
theorem rms_1 {xs : List Stock} {ms : List Movement} {R : List Stock × Int × Int} (h : ¬ ms.length = 0) (h2 : goMv refMoveR xs 0 ms = R) : refMovesR xs ms = R := by rw [refMovesR, if_neg h, h2]
theorem goMv_ref : ∀ (ms : List Movement) (xs : List Stock) (i : Int), stockE xs = 0 → goMv moveR xs i ms = goMv refMoveR xs i ms
  | [], _, _, _ => rfl
  | m :: ms, xs, i, h => by
    unfold goMv
    rw [← move_ref h]
    split
    · rfl
    · exact goMv_ref ms _ _ moveR_ok
theorem nrm_ref {xs : List Stock} (h : stockE xs = 0) : normR xs = settS (putF [] xs) := by
  rw [settS_listS fun x hx => ((stockE_ok h).2 x hx).2.2.1, normR, if_pos h]
theorem moves_ref {xs : List Stock} {ms : List Movement} (h : stockE xs = 0) : movesR xs ms = refMovesR xs ms := by
  unfold movesR refMovesR
  rw [nrm_ref h, goMv_ref ms xs 0 h]
theorem moves_err {xs : List Stock} {ms : List Movement} (h : ¬ stockE xs = 0) : movesR xs ms = ([], 0, stockE xs) := by
  unfold movesR
  cases ms with
  | nil => rw [if_pos (by rfl), norm_1 h]
  | cons m ms => rw [if_neg (by simp), goMv, mo_1 h, if_pos (by simpa using h)]
theorem normR_len (xs : List Stock) : (normR xs).2.length ≤ 200 := by
  unfold normR
  split
  · rcases listS_cases (sumS [] xs) with ⟨_, _, _, h⟩ | ⟨_, h⟩
    · exact h
    · rw [h]; simp
  · simp
theorem goMv_len : ∀ (ms : List Movement) (xs : List Stock) (i : Int), ms ≠ [] → (goMv moveR xs i ms).1.length ≤ 200
  | [m], xs, i, _ => by
    unfold goMv goMv
    split
    · simp
    · exact moveR_len _ _
  | m :: m' :: ms, xs, i, _ => by
    unfold goMv
    split
    · simp
    · exact goMv_len (m' :: ms) _ _ (by simp)
theorem movesR_len (xs : List Stock) (ms : List Movement) : (movesR xs ms).1.length ≤ 200 := by
  unfold movesR
  split
  · exact normR_len xs
  · rename_i h; exact goMv_len ms xs 0 (fun e => h (by rw [e]; rfl))
/-- Nothing, or a list that no caller changes. -/
def LitF (v : PV) (sz : Nat) (rows : List (List PV)) : Prop := (v = .nil ∧ rows = []) ∨ v = .lit false sz rows
theorem LitF.out {h : Heap} {v : PV} {l : List Stock} (hl : LitF v 4 (l.map Stock.enc)) : Out h v (.lit false 4 (l.map Stock.enc)) := by
  rcases hl with ⟨rfl, e⟩ | rfl
  · rw [e]; exact .nil 4
  · exact .clean (.lit _ _ (fun row hr p hp => by obtain ⟨a, _, rfl⟩ := List.mem_map.1 hr; exact (stock_clean a p hp).1))
theorem tr_out {h : Heap} {r : List Stock × Int × Int} {l : List Stock} {i e : Int} {v : PV} (hr : r = (l, i, e)) (hl : LitF v 4 (l.map Stock.enc)) : Out h (.tup [v, .int i, .int e]) (.tup [.lit false 4 (r.1.map Stock.enc), .int r.2.1, .int r.2.2]) := by
  rw [hr]; exact out_3 hl.out (out_i rfl) (out_i rfl)
theorem tr_out0 {h : Heap} {r : List Stock × Int × Int} {i e : Int} (hr : r = ([], i, e)) : Out h (.tup [.nil, .int i, .int e]) (.tup [.lit false 4 (r.1.map Stock.enc), .int r.2.1, .int r.2.2]) := tr_out hr (.inl ⟨rfl, rfl⟩)

theorem pure_3 {a b c : PV} (h1 : Pure a) (h2 : Pure b) (h3 : Pure c) : Pure (.tup [a, b, c]) := .tup _ fun p hp => by
  simp only [List.mem_cons, List.not_mem_nil, or_false] at hp
  rcases hp with rfl | rfl | rfl <;> assumption

theorem fr18 : (inFrame Tryd.f18.ntmps (Tryd.f18.body.getD .skip) && Tryd.f18.results.toList.all (resScope Tryd.f18.ntmps)) = true := by kernel_rfl
theorem MovesS (xs : List Stock) (ms : List Movement) (hl : xs.length ≤ 220) (hs : ∀ x ∈ xs, x.part.size ≤ 30) (hml : ms.length ≤ 10) (hm : ∀ m ∈ ms, m.part.size ≤ 30) : PCalls Tryd.prog 18 [.lit true 4 (xs.map Stock.enc), .lit true 6 (ms.map Movement.enc)] (.tup [.lit false 4 ((movesR xs ms).1.map Stock.enc), .int (movesR xs ms).2.1, .int (movesR xs ms).2.2]) := by
  refine PCalls.of_code Tryd.func18 rfl rfl (by kernel_rfl) mixed fr18 (by show _ ≤ 45; simp) (pure_3 (.lit _ _ _ fun row hr => pure_map Stock.pure row hr) (.sc _) (.sc _)) ?_
  refine pwp_seq_plain rfl fun K1 hK1 => ?_
  refine p_step rfl (e_assign (v := .nil) rfl) trivial ?_
  refine p_step rfl (e_assign (v := .sc _) rfl) trivial ?_
  refine p_step rfl (e_assign (v := .sc _) rfl) trivial ?_
  refine p_end (hK1 _ ?_); clear hK1 K1
  refine pwp_seq_seq ?_
  refine pwp_seq_plain rfl fun K2 hK2 => ?_
  refine p_step rfl (e_move (v := .lit _ _ _) rfl) trivial ?_
  refine p_step rfl (e_len rfl (by kernel_rfl)) trivial ?_
  refine p_step rfl (e_eq rfl rfl) trivial ?_
  refine p_end (hK2 _ ?_); clear hK2 K2
  refine pwp_seq_cond rfl fun K3 hK3 => ⟨fun hb4 => ?_, fun hb4 => ?_⟩
  ·have hb4R := hb4; try simp only [z1, z2, z3, z4, z5, z6, ne_eq, z7, z8, z9, z10, z11, z12] at hb4
   refine pwp_seq_plain rfl fun K5 hK5 => ?_
   refine p_step rfl (e_move (v := .lit _ _ _) rfl) trivial ?_
   refine p_call rfl (.cons inn_lit .nil) (NormalS _ hl hs) ?_
   refine p_step rfl (e_move (v := .tup _) rfl) trivial ?_
   refine p_step rfl (e_ext (v := .lit _ _ _) rfl (by simp) rfl) trivial ?_
   refine p_step rfl (e_ext (v := .sc _) rfl (by simp) rfl) trivial ?_
   refine p_step rfl (e_assign (v := .lit _ _ _) rfl) trivial ?_
   refine p_step rfl (e_assign (v := .sc _) rfl) trivial ?_
   refine p_end (hK5 _ ?_); clear hK5 K5
   refine pwp_seq_plain rfl fun K6 hK6 => ?_
   refine p_step rfl (e_move (v := .lit _ _ _) rfl) trivial ?_
   refine p_step rfl (e_move (v := .sc _) rfl) trivial ?_
   refine p_step rfl (e_assign (v := .lit _ _ _) rfl) trivial ?_
   refine p_step rfl (e_assign (v := .sc _) rfl) trivial ?_
   refine p_step rfl (e_assign (v := .sc _) rfl) trivial ?_
   refine p_end (hK6 _ ?_); clear hK6 K6
   refine pwp_ret ?_
   refine ret_seq ?_
   refine end3 (v := .lit _ _ _) (w := .sc _) (x := .sc _) rfl rfl rfl ?_
   exact tr_out (mvs_0 (by omega)) (.inr rfl)
  have hb4R := hb4; try simp only [z1, z2, z3, z4, z5, z6, ne_eq, z7, z8, z9, z10, z11, z12] at hb4
  refine pwp_skip ?_
  refine seq_norm (hK3 _ ?_); clear hK3 K3
  refine pwp_seq_seq ?_
  refine pwp_seq_plain rfl fun K7 hK7 => ?_
  refine p_step rfl (e_move (v := .lit _ _ _) rfl) trivial ?_
  refine p_step rfl (e_len rfl (by kernel_rfl)) trivial ?_
  refine p_step rfl (e_move (v := .sc _) rfl) trivial ?_
  refine p_end (hK7 _ ?_); clear hK7 K7
  refine pwp_seq_block fun K8 hK8 => ?_
  refine pwp_loopR (α := Nat × (List Stock) × PV) [1, 23, 24] (fun (a9 : Nat × (List Stock) × PV) => [(0, (a9.2.2)), (25, .int (a9.1))]) (fun (a9 : Nat × (List Stock) × PV) (h : Heap) (_ : Nat → Nat) => ((a9.1) ≤ ms.length) ∧ (LitV (a9.2.2) 4 ((a9.2.1).map Stock.enc)) ∧ (0 < (a9.1) → LitF (a9.2.2) 4 ((a9.2.1).map Stock.enc)) ∧ ((a9.2.1).length ≤ 220) ∧ (∀ y ∈ (a9.2.1), y.part.size ≤ 30) ∧ (goMv moveR xs 0 ms = goMv moveR (a9.2.1) ((a9.1) : Int) (ms.drop (a9.1)))) (fun (a9 : Nat × (List Stock) × PV) => ms.length - (a9.1)) (0, xs, _) (by exact ⟨rfl, rfl, trivial⟩) (by exact ⟨by exact Nat.zero_le _, by exact LitV.lit, by exact fun h => absurd h (Nat.lt_irrefl 0), by assumption, by assumption, by exact rfl⟩) fun a9 r10 h11 c12 hj13 => ?_
  obtain ⟨k, ys, v⟩ := a9
  obtain ⟨hk, hlv, hlf, hyl, hys, hinv⟩ := hj13
  try dsimp only at hk
  try dsimp only at hlv
  try dsimp only at hlf
  try dsimp only at hyl
  try dsimp only at hys
  try dsimp only at hinv
  show pwp _ _ (loopQ _ _ _) ⟨sets (mix _ _ _) [(0, v), (25, .int k)], _, _⟩
  refine pwp_seq_plain rfl fun K14 hK14 => ?_
  refine p_step rfl (e_lt rfl rfl) trivial ?_
  refine p_end (hK14 _ ?_); clear hK14 K14
  refine pwp_seq_cond rfl fun K15 hK15 => ⟨fun hb16 => ?_, fun hb16 => ?_⟩
  ·have hb16R := hb16; try simp only [z1, z2, z3, z4, z5, z6, ne_eq, z7, z8, z9, z10, z11, z12] at hb16
   obtain ⟨x, hx, hd, ht⟩ := get_lt (xs := ms) (i := k) (by omega)
   rw [hd] at hinv
   have hxp := hm x (List.mem_of_getElem? hx)
   refine pwp_skip ?_
   refine seq_norm (hK15 _ ?_); clear hK15 K15
   refine pwp_seq_block fun K17 hK17 => ?_
   refine pwp_seq_plain rfl fun K18 hK18 => ?_
   refine p_step rfl (e_move (v := .sc _) rfl) trivial ?_
   refine p_step rfl (e_ixa rfl rfl (by kernel_rfl) (by kernel_rfl) (by simp only [List.length_map]; omega)) trivial ?_
   refine p_step rfl (e_loadA (n := 6) rfl (by kernel_rfl) (by kernel_rfl) (by kernel_rfl) (by simp only [List.length_map]; omega) (by decide) (by first | exact agg_map hx rfl)) trivial ?_
   refine p_new rfl (e_alloc (cs := [.str ByteArray.empty, .int 0, .int 0, .int 0, .int 0, .int 0]) (n := 6) (by kernel_rfl) rfl (by decide)) (ob_alloc (by decide)) ?_
   refine p_step rfl (e_assign (v := .sc _) rfl) trivial ?_
   refine p_store rfl (e_storeA rfl (hset_self _ _ _) rfl rfl rfl (by kernel_rfl) rfl (by kernel_rfl)) trivial ?_
   refine p_end (hK18 _ ?_); clear hK18 K18
   refine pwp_seq_plain rfl fun K19 hK19 => ?_
   refine p_step rfl (e_move (v := _) rfl) trivial ?_
   refine p_step rfl (e_loadHA (n := 6) rfl (hset_self _ _ _) (by kernel_rfl) (by kernel_rfl) (by kernel_rfl) (by exact Nat.zero_lt_one) (by decide) rfl) trivial ?_
   refine p_call rfl (.cons (LitV.inn hlv) (.cons (inn_agg (Movement.pure _)) .nil)) (MoveS _ _ hyl hys hxp) ?_
   refine p_step rfl (e_move (v := .tup _) rfl) trivial ?_
   refine p_step rfl (e_ext (v := .lit _ _ _) rfl (by simp) rfl) trivial ?_
   refine p_step rfl (e_ext (v := .sc _) rfl (by simp) rfl) trivial ?_
   refine p_step rfl (e_assign (v := .lit _ _ _) rfl) trivial ?_
   refine p_step rfl (e_assign (v := .sc _) rfl) trivial ?_
   refine p_end (hK19 _ ?_); clear hK19 K19
   refine pwp_seq_seq ?_
   refine pwp_seq_plain rfl fun K20 hK20 => ?_
   refine p_step rfl (e_move (v := .sc _) rfl) trivial ?_
   refine p_step rfl (e_ne rfl rfl) trivial ?_
   refine p_end (hK20 _ ?_); clear hK20 K20
   refine pwp_seq_cond rfl fun K21 hK21 => ⟨fun hb22 => ?_, fun hb22 => ?_⟩
   ·have hb22R := hb22; try simp only [z1, z2, z3, z4, z5, z6, ne_eq, z7, z8, z9, z10, z11, z12] at hb22
    refine pwp_seq_plain rfl fun K23 hK23 => ?_
    refine p_step rfl (e_move (v := .sc _) rfl) trivial ?_
    refine p_step rfl (e_move (v := .sc _) rfl) trivial ?_
    refine p_step rfl (e_assign (v := .nil) rfl) trivial ?_
    refine p_step rfl (e_assign (v := .sc _) rfl) trivial ?_
    refine p_step rfl (e_assign (v := .sc _) rfl) trivial ?_
    refine p_end (hK23 _ ?_); clear hK23 K23
    refine pwp_ret ?_
    refine ret_seq ?_
    refine ret_block ?_
    refine ret_seq ?_
    refine ret_loop ?_
    refine ret_block ?_
    refine ret_seq ?_
    refine end3 (v := .nil) (w := .sc _) (x := .sc _) rfl rfl rfl ?_
    exact tr_out0 (mvs_1 (by omega) (gm_1 hinv (by assumption)))
   have hb22R := hb22; try simp only [z1, z2, z3, z4, z5, z6, ne_eq, z7, z8, z9, z10, z11, z12] at hb22
   refine pwp_skip ?_
   refine seq_norm (hK21 _ ?_); clear hK21 K21
   refine pwp_plain rfl fun K24 hK24 => ?_
   refine p_step rfl (e_move (v := .lit _ _ _) rfl) trivial ?_
   refine p_step rfl (e_assign (v := .lit _ _ _) rfl) trivial ?_
   refine p_end (hK24 _ ?_); clear hK24 K24
   refine block_norm ?_
   refine seq_norm (hK17 _ ?_); clear hK17 K17
   refine pwp_plain rfl fun K25 hK25 => ?_
   refine p_step rfl (e_add rfl rfl (by omega)) trivial ?_
   refine p_step rfl (e_move (v := .sc _) rfl) trivial ?_
   refine p_end (hK25 _ ?_); clear hK25 K25
   exact loop_again ((k + 1, (moveR ys x).2, _)) (by show _ < _; simp only; omega) ⟨rfl, rfl, rfl, trivial⟩ ⟨rfl, rfl, trivial⟩ (by exact ⟨by show _ + 1 ≤ _; omega, by exact LitV.lit, by exact fun _ => .inr rfl, by exact Nat.le_trans (moveR_len _ _) (by decide), by exact moveR_part hys hxp, by exact gm_2 hinv (by assumption)⟩)
  have hb16R := hb16; try simp only [z1, z2, z3, z4, z5, z6, ne_eq, z7, z8, z9, z10, z11, z12] at hb16
  obtain rfl : k = ms.length := by omega
  rw [List.drop_length] at hinv; simp only [goMv] at hinv
  refine pwp_exit ?_
  refine exit_seq ?_
  clear hK15 K15
  refine exit_loop ?_
  refine exit_here ?_
  refine seq_norm (hK8 _ ?_); clear hK8 K8
  refine pwp_seq_plain rfl fun K26 hK26 => ?_
  refine p_step rfl (e_move (v := _) rfl) trivial ?_
  refine p_step rfl (e_move (v := .lit _ _ _) rfl) trivial ?_
  refine p_step rfl (e_len rfl (by kernel_rfl)) trivial ?_
  refine p_step rfl (e_assign (v := _) rfl) trivial ?_
  refine p_step rfl (e_assign (v := .sc _) rfl) trivial ?_
  refine p_step rfl (e_assign (v := .sc _) rfl) trivial ?_
  refine p_end (hK26 _ ?_); clear hK26 K26
  refine pwp_ret ?_
  refine end3 (v := _) (w := .sc _) (x := .sc _) rfl rfl rfl ?_
  exact tr_out (mvs_1 (by omega) (by rw [hinv, List.length_map])) (hlf (by omega))

theorem fr19 : (inFrame Tryd.f19.ntmps (Tryd.f19.body.getD .skip) && Tryd.f19.results.toList.all (resScope Tryd.f19.ntmps)) = true := by kernel_rfl
theorem refMoves (xs : List Stock) (ms : List Movement) (hl : xs.length ≤ 220) (hs : ∀ x ∈ xs, x.part.size ≤ 30) (hml : ms.length ≤ 10) (hm : ∀ m ∈ ms, m.part.size ≤ 30) (h0 : stockE xs = 0) : PCalls Tryd.prog 19 [.lit true 4 (xs.map Stock.enc), .lit true 6 (ms.map Movement.enc)] (.tup [.lit false 4 ((refMovesR xs ms).1.map Stock.enc), .int (refMovesR xs ms).2.1, .int (refMovesR xs ms).2.2]) := by
  refine PCalls.of_code Tryd.func19 rfl rfl (by kernel_rfl) mixed fr19 (by show _ ≤ 43; simp) (pure_3 (.lit _ _ _ fun row hr => pure_map Stock.pure row hr) (.sc _) (.sc _)) ?_
  refine pwp_seq_plain rfl fun K1 hK1 => ?_
  refine p_step rfl (e_assign (v := .nil) rfl) trivial ?_
  refine p_step rfl (e_assign (v := .sc _) rfl) trivial ?_
  refine p_step rfl (e_assign (v := .sc _) rfl) trivial ?_
  refine p_end (hK1 _ ?_); clear hK1 K1
  refine pwp_seq_plain rfl fun K2 hK2 => ?_
  refine p_step rfl (e_move (v := .lit _ _ _) rfl) trivial ?_
  refine p_call rfl (.cons inn_lit .nil) (refNormal _ h0) ?_
  refine p_step rfl (e_move (v := .tup _) rfl) trivial ?_
  refine p_step rfl (e_ext (v := .lit _ _ _) rfl (by simp) rfl) trivial ?_
  refine p_step rfl (e_ext (v := .sc _) rfl (by simp) rfl) trivial ?_
  refine p_step rfl (e_assign (v := .lit _ _ _) rfl) trivial ?_
  refine p_step rfl (e_assign (v := .sc _) rfl) trivial ?_
  refine p_end (hK2 _ ?_); clear hK2 K2
  refine pwp_seq_seq ?_
  refine pwp_seq_plain rfl fun K3 hK3 => ?_
  refine p_step rfl (e_move (v := .lit _ _ _) rfl) trivial ?_
  refine p_step rfl (e_len rfl (by kernel_rfl)) trivial ?_
  refine p_step rfl (e_eq rfl rfl) trivial ?_
  refine p_end (hK3 _ ?_); clear hK3 K3
  refine pwp_seq_cond rfl fun K4 hK4 => ⟨fun hb5 => ?_, fun hb5 => ?_⟩
  ·have hb5R := hb5; try simp only [z1, z2, z3, z4, z5, z6, ne_eq, z7, z8, z9, z10, z11, z12] at hb5
   refine pwp_seq_plain rfl fun K6 hK6 => ?_
   refine p_step rfl (e_move (v := .lit _ _ _) rfl) trivial ?_
   refine p_step rfl (e_move (v := .sc _) rfl) trivial ?_
   refine p_step rfl (e_assign (v := .lit _ _ _) rfl) trivial ?_
   refine p_step rfl (e_assign (v := .sc _) rfl) trivial ?_
   refine p_step rfl (e_assign (v := .sc _) rfl) trivial ?_
   refine p_end (hK6 _ ?_); clear hK6 K6
   refine pwp_ret ?_
   refine ret_seq ?_
   refine end3 (v := .lit _ _ _) (w := .sc _) (x := .sc _) rfl rfl rfl ?_
   exact tr_out (rms_0 (by omega)) (.inr rfl)
  have hb5R := hb5; try simp only [z1, z2, z3, z4, z5, z6, ne_eq, z7, z8, z9, z10, z11, z12] at hb5
  refine pwp_skip ?_
  refine seq_norm (hK4 _ ?_); clear hK4 K4
  refine pwp_seq_plain rfl fun K7 hK7 => ?_
  refine p_step rfl (e_move (v := .lit _ _ _) rfl) trivial ?_
  refine p_step rfl (e_assign (v := .lit _ _ _) rfl) trivial ?_
  refine p_end (hK7 _ ?_); clear hK7 K7
  refine pwp_seq_seq ?_
  refine pwp_seq_plain rfl fun K8 hK8 => ?_
  refine p_step rfl (e_assign (v := .sc _) rfl) trivial ?_
  refine p_end (hK8 _ ?_); clear hK8 K8
  refine pwp_seq_block fun K9 hK9 => ?_
  refine pwp_loopR (α := Nat × (List Stock) × PV) [1] (fun (a10 : Nat × (List Stock) × PV) => [(7, (a10.2.2)), (9, .int (a10.1))]) (fun (a10 : Nat × (List Stock) × PV) (h : Heap) (_ : Nat → Nat) => ((a10.1) ≤ ms.length) ∧ (LitV (a10.2.2) 4 ((a10.2.1).map Stock.enc)) ∧ (0 < (a10.1) → LitF (a10.2.2) 4 ((a10.2.1).map Stock.enc)) ∧ ((a10.2.1).length ≤ 220) ∧ (∀ y ∈ (a10.2.1), y.part.size ≤ 30) ∧ (goMv refMoveR xs 0 ms = goMv refMoveR (a10.2.1) ((a10.1) : Int) (ms.drop (a10.1))) ∧ (stockE (a10.2.1) = 0)) (fun (a10 : Nat × (List Stock) × PV) => ms.length - (a10.1)) (0, xs, _) (by exact ⟨rfl, rfl, trivial⟩) (by exact ⟨by exact Nat.zero_le _, by exact LitV.lit, by exact fun h => absurd h (Nat.lt_irrefl 0), by assumption, by assumption, by exact rfl, by exact h0⟩) fun a10 r11 h12 c13 hj14 => ?_
  obtain ⟨k, ys, v⟩ := a10
  obtain ⟨hk, hlv, hlf, hyl, hys, hinv, hye⟩ := hj14
  try dsimp only at hk
  try dsimp only at hlv
  try dsimp only at hlf
  try dsimp only at hyl
  try dsimp only at hys
  try dsimp only at hinv
  try dsimp only at hye
  show pwp _ _ (loopQ _ _ _) ⟨sets (mix _ _ _) [(7, v), (9, .int k)], _, _⟩
  refine pwp_seq_seq ?_
  refine pwp_seq_plain rfl fun K15 hK15 => ?_
  refine p_step rfl (e_move (v := .sc _) rfl) trivial ?_
  refine p_step rfl (e_move (v := .lit _ _ _) rfl) trivial ?_
  refine p_step rfl (e_len rfl (by kernel_rfl)) trivial ?_
  refine p_step rfl (e_lt rfl rfl) trivial ?_
  refine p_end (hK15 _ ?_); clear hK15 K15
  refine pwp_seq_cond rfl fun K16 hK16 => ⟨fun hb17 => ?_, fun hb17 => ?_⟩
  ·have hb17R := hb17; try simp only [z1, z2, z3, z4, z5, z6, ne_eq, z7, z8, z9, z10, z11, z12] at hb17
   obtain ⟨x, hx, hd, ht⟩ := get_lt (xs := ms) (i := k) (by omega)
   rw [hd] at hinv
   have hxp := hm x (List.mem_of_getElem? hx)
   refine pwp_skip ?_
   refine seq_norm (hK16 _ ?_); clear hK16 K16
   refine pwp_seq_block fun K18 hK18 => ?_
   refine pwp_seq_plain rfl fun K19 hK19 => ?_
   refine p_step rfl (e_move (v := _) rfl) trivial ?_
   refine p_step rfl (e_move (v := .lit _ _ _) rfl) trivial ?_
   refine p_step rfl (e_move (v := .sc _) rfl) trivial ?_
   refine p_step rfl (e_ixa rfl rfl (by kernel_rfl) (by kernel_rfl) (by simp only [List.length_map]; omega)) trivial ?_
   refine p_step rfl (e_loadA (n := 6) rfl (by kernel_rfl) (by kernel_rfl) (by kernel_rfl) (by simp only [List.length_map]; omega) (by decide) (by first | exact agg_map hx rfl)) trivial ?_
   refine p_call rfl (.cons (LitV.inn hlv) (.cons (inn_agg (Movement.pure _)) .nil)) (refMove _ _ hyl (fun y hy => by have := (stockE_ok hye).2 y hy; omega) hxp) ?_
   refine p_step rfl (e_move (v := .tup _) rfl) trivial ?_
   refine p_step rfl (e_ext (v := .lit _ _ _) rfl (by simp) rfl) trivial ?_
   refine p_step rfl (e_ext (v := .sc _) rfl (by simp) rfl) trivial ?_
   refine p_step rfl (e_assign (v := .lit _ _ _) rfl) trivial ?_
   refine p_step rfl (e_assign (v := .sc _) rfl) trivial ?_
   refine p_end (hK19 _ ?_); clear hK19 K19
   refine pwp_seq_plain rfl fun K20 hK20 => ?_
   refine p_step rfl (e_move (v := .sc _) rfl) trivial ?_
   refine p_step rfl (e_ne rfl rfl) trivial ?_
   refine p_end (hK20 _ ?_); clear hK20 K20
   refine pwp_cond rfl (fun hb21 => ?_) (fun hb21 => ?_)
   ·have hb21R := hb21; try simp only [z1, z2, z3, z4, z5, z6, ne_eq, z7, z8, z9, z10, z11, z12] at hb21
    refine pwp_seq_plain rfl fun K22 hK22 => ?_
    refine p_step rfl (e_move (v := .sc _) rfl) trivial ?_
    refine p_step rfl (e_move (v := .sc _) rfl) trivial ?_
    refine p_step rfl (e_assign (v := .nil) rfl) trivial ?_
    refine p_step rfl (e_assign (v := .sc _) rfl) trivial ?_
    refine p_step rfl (e_assign (v := .sc _) rfl) trivial ?_
    refine p_end (hK22 _ ?_); clear hK22 K22
    refine pwp_ret ?_
    refine ret_block ?_
    refine ret_seq ?_
    refine ret_loop ?_
    refine ret_block ?_
    refine ret_seq ?_
    refine end3 (v := .nil) (w := .sc _) (x := .sc _) rfl rfl rfl ?_
    exact tr_out0 (rms_1 (by omega) (gm_1 hinv (by assumption)))
   have hb21R := hb21; try simp only [z1, z2, z3, z4, z5, z6, ne_eq, z7, z8, z9, z10, z11, z12] at hb21
   refine pwp_skip ?_
   refine block_norm ?_
   refine seq_norm (hK18 _ ?_); clear hK18 K18
   refine pwp_plain rfl fun K23 hK23 => ?_
   refine p_step rfl (e_move (v := .sc _) rfl) trivial ?_
   refine p_step rfl (e_add rfl rfl (by omega)) trivial ?_
   refine p_step rfl (e_assign (v := .sc _) rfl) trivial ?_
   refine p_end (hK23 _ ?_); clear hK23 K23
   exact loop_again ((k + 1, (refMoveR ys x).2, _)) (by show _ < _; simp only; omega) ⟨rfl, trivial⟩ ⟨rfl, rfl, trivial⟩ (by exact ⟨by show _ + 1 ≤ _; omega, by exact LitV.lit, by exact fun _ => .inr rfl, by (rw [← move_ref hye]; exact Nat.le_trans (moveR_len _ _) (by decide)), by (rw [← move_ref hye]; exact moveR_part hys hxp), by exact gm_2 hinv (by assumption), by (rw [← move_ref hye]; exact moveR_ok)⟩)
  have hb17R := hb17; try simp only [z1, z2, z3, z4, z5, z6, ne_eq, z7, z8, z9, z10, z11, z12] at hb17
  obtain rfl : k = ms.length := by omega
  rw [List.drop_length] at hinv; simp only [goMv] at hinv
  refine pwp_exit ?_
  refine exit_seq ?_
  clear hK16 K16
  refine exit_loop ?_
  refine exit_here ?_
  refine seq_norm (hK9 _ ?_); clear hK9 K9
  refine pwp_seq_plain rfl fun K24 hK24 => ?_
  refine p_step rfl (e_move (v := _) rfl) trivial ?_
  refine p_step rfl (e_move (v := .lit _ _ _) rfl) trivial ?_
  refine p_step rfl (e_len rfl (by kernel_rfl)) trivial ?_
  refine p_step rfl (e_assign (v := _) rfl) trivial ?_
  refine p_step rfl (e_assign (v := .sc _) rfl) trivial ?_
  refine p_step rfl (e_assign (v := .sc _) rfl) trivial ?_
  refine p_end (hK24 _ ?_); clear hK24 K24
  refine pwp_ret ?_
  refine end3 (v := _) (w := .sc _) (x := .sc _) rfl rfl rfl ?_
  exact tr_out (rms_1 (by omega) (by rw [hinv, List.length_map])) (hlf (by omega))

theorem fr4 : (inFrame Tryd.f4.ntmps (Tryd.f4.body.getD .skip) && Tryd.f4.results.toList.all (resScope Tryd.f4.ntmps)) = true := by kernel_rfl
theorem hrows (xs : List Stock) (ms : List Movement) (hlx : xs.length ≤ 9223372036854775807) (hlm : ms.length ≤ 9223372036854775807) : PCalls Tryd.prog 4 [.lit true 4 (xs.map Stock.enc), .lit true 6 (ms.map Movement.enc)] (.bool true) := by
  refine PCalls.of_code Tryd.func4 rfl rfl (by kernel_rfl) mixed fr4 (by show _ ≤ 79; simp) (.sc _) ?_
  refine pwp_seq_plain rfl fun K1 hK1 => ?_
  refine p_step rfl (e_assign (v := .sc _) rfl) trivial ?_
  refine p_end (hK1 _ ?_); clear hK1 K1
  refine pwp_seq_seq ?_
  refine pwp_seq_plain rfl fun K2 hK2 => ?_
  refine p_call rfl .nil (awake) ?_
  refine p_step rfl (e_not rfl) trivial ?_
  refine p_end (hK2 _ ?_); clear hK2 K2
  refine pwp_seq_cond (t := false) rfl fun K3 hK3 => ⟨nofun, fun _ => ?_⟩
  refine pwp_skip ?_
  refine seq_norm (hK3 _ ?_); clear hK3 K3
  refine pwp_seq_seq ?_
  refine pwp_seq_gops rfl fun K4 hK4 => ?_
  refine g_begin ?_
  refine g_step rfl rfl rfl rfl (e_move (v := .lit _ _ _) rfl) trivial ?_
  refine g_call rfl rfl rfl rfl (.cons inn_lit .nil) (ShortS _ hlx) ?_
  refine g_step rfl rfl rfl rfl (e_not rfl) trivial ?_
  refine g_step rfl rfl rfl rfl (e_move (v := .sc _) rfl) trivial ?_
  refine g_cases (fun hb5 => ?_) (fun hb5 => ?_)
  ·have hb5R := hb5; simp only [z1, z2, z3, z4, z5, z6, ne_eq, z7, z8, z9, z10, z11, z12] at hb5
   refine g_skip rfl rfl rfl ?_
   refine g_skip rfl rfl rfl ?_
   refine g_skip rfl rfl rfl ?_
   refine g_step rfl rfl rfl rfl (e_pickT (v := .sc _) rfl rfl) trivial ?_
   refine g_end (ds := [19, 20, 21]) rfl rfl (hK4 _ ?_); clear hK4 K4
   refine pwp_seq_cond (t := true) rfl fun K6 hK6 => ⟨fun _ => ?_, nofun⟩
   refine pwp_seq_plain rfl fun K7 hK7 => ?_
   refine p_step rfl (e_assign (v := .sc _) rfl) trivial ?_
   refine p_end (hK7 _ ?_); clear hK7 K7
   refine pwp_ret ?_
   refine ret_seq ?_
   refine end1 (v := .sc _) rfl ?_
   exact out_b rfl
  have hb5R := hb5; simp only [z1, z2, z3, z4, z5, z6, ne_eq, z7, z8, z9, z10, z11, z12] at hb5; have hsh := shortB_iff hb5
  refine g_step rfl rfl rfl rfl (e_move (v := .lit _ _ _) rfl) trivial ?_
  refine g_step rfl rfl rfl rfl (e_len rfl (by kernel_rfl)) trivial ?_
  refine g_step rfl rfl rfl rfl (e_gt rfl rfl) trivial ?_
  refine g_step rfl rfl rfl rfl (e_pickF (v := .sc _) rfl rfl) trivial ?_
  refine g_end (ds := [19, 20, 21]) rfl rfl (hK4 _ ?_); clear hK4 K4
  refine pwp_seq_cond rfl fun K8 hK8 => ⟨fun hb9 => ?_, fun hb9 => ?_⟩
  ·have hb9R := hb9; simp only [z1, z2, z3, z4, z5, z6, ne_eq, z7, z8, z9, z10, z11, z12] at hb9
   refine pwp_seq_plain rfl fun K10 hK10 => ?_
   refine p_step rfl (e_assign (v := .sc _) rfl) trivial ?_
   refine p_end (hK10 _ ?_); clear hK10 K10
   refine pwp_ret ?_
   refine ret_seq ?_
   refine end1 (v := .sc _) rfl ?_
   exact out_b rfl
  have hb9R := hb9; simp only [z1, z2, z3, z4, z5, z6, ne_eq, z7, z8, z9, z10, z11, z12] at hb9
  refine pwp_skip ?_
  refine seq_norm (hK8 _ ?_); clear hK8 K8
  refine pwp_seq_seq ?_
  refine pwp_seq_plain rfl fun K11 hK11 => ?_
  refine p_step rfl (e_assign (v := .sc _) rfl) trivial ?_
  refine p_end (hK11 _ ?_); clear hK11 K11
  refine pwp_seq_block fun K12 hK12 => ?_
  refine pwp_loopR (α := Nat) [0, 1] (fun (k : Nat) => [(5, .int (k))]) (fun (k : Nat) (h : Heap) (_ : Nat → Nat) => ((k) ≤ ms.length) ∧ (∀ m ∈ ms.take (k), m.part.size ≤ 30)) (fun (k : Nat) => ms.length - (k)) (0) (by exact ⟨rfl, trivial⟩) (by exact ⟨by exact Nat.zero_le _, by simp⟩) fun k r13 h14 c15 hj16 => ?_
  obtain ⟨hk, hq⟩ := hj16
  try dsimp only at hk
  try dsimp only at hq
  show pwp _ _ (loopQ _ _ _) ⟨sets (mix _ _ _) [(5, .int k)], _, _⟩
  refine pwp_seq_seq ?_
  refine pwp_seq_plain rfl fun K17 hK17 => ?_
  refine p_step rfl (e_move (v := .sc _) rfl) trivial ?_
  refine p_step rfl (e_move (v := .lit _ _ _) rfl) trivial ?_
  refine p_step rfl (e_len rfl (by kernel_rfl)) trivial ?_
  refine p_step rfl (e_lt rfl rfl) trivial ?_
  refine p_end (hK17 _ ?_); clear hK17 K17
  refine pwp_seq_cond rfl fun K18 hK18 => ⟨fun hb19 => ?_, fun hb19 => ?_⟩
  ·have hb19R := hb19; simp only [z1, z2, z3, z4, z5, z6, ne_eq, z7, z8, z9, z10, z11, z12] at hb19
   obtain ⟨x, hx, hd, ht⟩ := get_lt (xs := ms) (i := k) (by omega)
   refine pwp_skip ?_
   refine seq_norm (hK18 _ ?_); clear hK18 K18
   refine pwp_seq_block fun K20 hK20 => ?_
   refine pwp_seq_plain rfl fun K21 hK21 => ?_
   refine p_step rfl (e_move (v := .lit _ _ _) rfl) trivial ?_
   refine p_step rfl (e_move (v := .sc _) rfl) trivial ?_
   refine p_step rfl (e_ixa rfl rfl (by kernel_rfl) (by kernel_rfl) (by simp only [List.length_map]; omega)) trivial ?_
   refine p_step rfl (e_fa (pl := [(0, 1, false), (1, 1, false), (2, 1, false), (3, 1, false), (4, 1, false), (5, 1, false)]) rfl (by kernel_rfl) (by kernel_rfl) (by decide) rfl) trivial ?_
   refine p_step rfl (e_load (v := .sc _) rfl (by kernel_rfl) (by kernel_rfl) (by kernel_rfl) (by simp only [List.length_map]; omega) (by decide) ((cell_map hx _).trans rfl)) trivial ?_
   refine p_step rfl (e_lenS rfl (by kernel_rfl)) trivial ?_
   refine p_step rfl (e_gt rfl rfl) trivial ?_
   refine p_end (hK21 _ ?_); clear hK21 K21
   refine pwp_cond rfl (fun hb22 => ?_) (fun hb22 => ?_)
   ·have hb22R := hb22; simp only [z1, z2, z3, z4, z5, z6, ne_eq, z7, z8, z9, z10, z11, z12] at hb22
    refine pwp_seq_plain rfl fun K23 hK23 => ?_
    refine p_step rfl (e_assign (v := .sc _) rfl) trivial ?_
    refine p_end (hK23 _ ?_); clear hK23 K23
    refine pwp_ret ?_
    refine ret_block ?_
    refine ret_seq ?_
    refine ret_loop ?_
    refine ret_block ?_
    refine ret_seq ?_
    refine end1 (v := .sc _) rfl ?_
    exact out_b rfl
   have hb22R := hb22; simp only [z1, z2, z3, z4, z5, z6, ne_eq, z7, z8, z9, z10, z11, z12] at hb22
   refine pwp_skip ?_
   refine block_norm ?_
   refine seq_norm (hK20 _ ?_); clear hK20 K20
   refine pwp_plain rfl fun K24 hK24 => ?_
   refine p_step rfl (e_move (v := .sc _) rfl) trivial ?_
   refine p_step rfl (e_add rfl rfl (by omega)) trivial ?_
   refine p_step rfl (e_assign (v := .sc _) rfl) trivial ?_
   refine p_end (hK24 _ ?_); clear hK24 K24
   exact loop_again (k + 1) (by show _ < _; omega) ⟨rfl, rfl, trivial⟩ ⟨rfl, trivial⟩ (by exact ⟨by show _ + 1 ≤ _; omega, by exact all_snocS ht hq (by omega)⟩)
  have hb19R := hb19; simp only [z1, z2, z3, z4, z5, z6, ne_eq, z7, z8, z9, z10, z11, z12] at hb19
  obtain rfl : k = ms.length := by omega
  rw [List.take_length] at hq
  have hms := hq
  refine pwp_exit ?_
  refine exit_seq ?_
  clear hK18 K18
  refine exit_loop ?_
  refine exit_here ?_
  refine seq_norm (hK12 _ ?_); clear hK12 K12
  refine pwp_seq_plain rfl fun K25 hK25 => ?_
  refine p_step rfl (e_move (v := .lit _ _ _) rfl) trivial ?_
  refine p_step rfl (e_move (v := .lit _ _ _) rfl) trivial ?_
  refine p_call rfl (.cons inn_lit (.cons inn_lit .nil)) (MovesS _ _ hsh.2.1 hsh.2.2 (by omega) hms) ?_
  refine p_step rfl (e_move (v := .tup _) rfl) trivial ?_
  refine p_step rfl (e_ext (v := .lit _ _ _) rfl (by simp) rfl) trivial ?_
  refine p_step rfl (e_ext (v := .sc _) rfl (by simp) rfl) trivial ?_
  refine p_step rfl (e_ext (v := .sc _) rfl (by simp) rfl) trivial ?_
  refine p_step rfl (e_assign (v := .lit _ _ _) rfl) trivial ?_
  refine p_step rfl (e_assign (v := .sc _) rfl) trivial ?_
  refine p_step rfl (e_assign (v := .sc _) rfl) trivial ?_
  refine p_end (hK25 _ ?_); clear hK25 K25
  refine pwp_seq_seq ?_
  refine pwp_seq_plain rfl fun K26 hK26 => ?_
  refine p_step rfl (e_move (v := .lit _ _ _) rfl) trivial ?_
  refine p_call rfl (.cons inn_lit .nil) (refCheckS _ hsh.2.1 hsh.2.2) ?_
  refine p_step rfl (e_assign (v := .sc _) rfl) trivial ?_
  refine p_end (hK26 _ ?_); clear hK26 K26
  refine pwp_seq_seq ?_
  refine pwp_seq_plain rfl fun K27 hK27 => ?_
  refine p_step rfl (e_move (v := .sc _) rfl) trivial ?_
  refine p_step rfl (e_ne rfl rfl) trivial ?_
  refine p_end (hK27 _ ?_); clear hK27 K27
  refine pwp_seq_cond rfl fun K28 hK28 => ⟨fun hb29 => ?_, fun hb29 => ?_⟩
  ·have hb29R := hb29; simp only [z1, z2, z3, z4, z5, z6, ne_eq, z7, z8, z9, z10, z11, z12] at hb29; have hm1 := moves_err (ms := ms) hb29
   refine pwp_seq_gops rfl fun K30 hK30 => ?_
   refine g_begin ?_
   refine g_step rfl rfl rfl rfl (e_move (v := .sc _) rfl) trivial ?_
   refine g_step rfl rfl rfl rfl (e_move (v := .sc _) rfl) trivial ?_
   refine g_step rfl rfl rfl rfl (e_eq rfl rfl) trivial ?_
   refine g_step rfl rfl rfl rfl (e_move (v := .sc _) rfl) trivial ?_
   refine g_cases (fun hb31 => ?_) (fun hb31 => ?_)
   ·have hb31R := hb31; simp only [z1, z2, z3, z4, z5, z6, ne_eq, z7, z8, z9, z10, z11, z12] at hb31
    refine g_step rfl rfl rfl rfl (e_move (v := .lit _ _ _) rfl) trivial ?_
    refine g_step rfl rfl rfl rfl (e_len rfl (by kernel_rfl)) trivial ?_
    refine g_step rfl rfl rfl rfl (e_eq rfl rfl) trivial ?_
    refine g_step rfl rfl rfl rfl (e_pickT (v := .sc _) rfl rfl) trivial ?_
    refine g_step rfl rfl rfl rfl (e_move (v := .sc _) rfl) trivial ?_
    refine g_cases (fun hb32 => ?_) (fun hb32 => ?_)
    ·have hb32R := hb32; simp only [z1, z2, z3, z4, z5, z6, ne_eq, z7, z8, z9, z10, z11, z12] at hb32
     refine g_step rfl rfl rfl rfl (e_move (v := .sc _) rfl) trivial ?_
     refine g_step rfl rfl rfl rfl (e_eq rfl rfl) trivial ?_
     refine g_step rfl rfl rfl rfl (e_pickT (v := .sc _) rfl rfl) trivial ?_
     refine g_step rfl rfl rfl rfl (e_assign (v := .sc _) rfl) trivial ?_
     refine g_end (ds := [51, 52, 53, 56, 57]) rfl rfl (hK30 _ ?_); clear hK30 K30
     refine pwp_ret ?_
     refine ret_seq ?_
     refine end1 (v := .sc _) rfl ?_
     (refine out_b ?_; simp [hm1]; done)
    have hb32R := hb32; simp only [z1, z2, z3, z4, z5, z6, ne_eq, z7, z8, z9, z10, z11, z12] at hb32
    refine g_skip rfl rfl rfl ?_
    refine g_skip rfl rfl rfl ?_
    refine g_step rfl rfl rfl rfl (e_pickF (v := .sc _) rfl rfl) trivial ?_
    refine g_step rfl rfl rfl rfl (e_assign (v := .sc _) rfl) trivial ?_
    refine g_end (ds := [51, 52, 53, 56, 57]) rfl rfl (hK30 _ ?_); clear hK30 K30
    refine pwp_ret ?_
    refine ret_seq ?_
    refine end1 (v := .sc _) rfl ?_
    (exfalso; simp_all; done)
   have hb31R := hb31; simp only [z1, z2, z3, z4, z5, z6, ne_eq, z7, z8, z9, z10, z11, z12] at hb31
   refine g_skip rfl rfl rfl ?_
   refine g_skip rfl rfl rfl ?_
   refine g_skip rfl rfl rfl ?_
   refine g_step rfl rfl rfl rfl (e_pickF (v := .sc _) rfl rfl) trivial ?_
   refine g_step rfl rfl rfl rfl (e_move (v := .sc _) rfl) trivial ?_
   refine g_skip rfl rfl rfl ?_
   refine g_skip rfl rfl rfl ?_
   refine g_step rfl rfl rfl rfl (e_pickF (v := .sc _) rfl rfl) trivial ?_
   refine g_step rfl rfl rfl rfl (e_assign (v := .sc _) rfl) trivial ?_
   refine g_end (ds := [51, 52, 53, 56, 57]) rfl rfl (hK30 _ ?_); clear hK30 K30
   refine pwp_ret ?_
   refine ret_seq ?_
   refine end1 (v := .sc _) rfl ?_
   (exfalso; simp_all; done)
  have hb29R := hb29; simp only [z1, z2, z3, z4, z5, z6, ne_eq, z7, z8, z9, z10, z11, z12] at hb29; have hm0 := moves_ref (ms := ms) hb29
  refine pwp_skip ?_
  refine seq_norm (hK28 _ ?_); clear hK28 K28
  refine pwp_seq_plain rfl fun K33 hK33 => ?_
  refine p_step rfl (e_move (v := .lit _ _ _) rfl) trivial ?_
  refine p_step rfl (e_move (v := .lit _ _ _) rfl) trivial ?_
  refine p_call rfl (.cons inn_lit (.cons inn_lit .nil)) (refMoves _ _ hsh.2.1 hsh.2.2 (by omega) hms (by assumption)) ?_
  refine p_step rfl (e_move (v := .tup _) rfl) trivial ?_
  refine p_step rfl (e_ext (v := .lit _ _ _) rfl (by simp) rfl) trivial ?_
  refine p_step rfl (e_ext (v := .sc _) rfl (by simp) rfl) trivial ?_
  refine p_step rfl (e_ext (v := .sc _) rfl (by simp) rfl) trivial ?_
  refine p_step rfl (e_assign (v := .lit _ _ _) rfl) trivial ?_
  refine p_step rfl (e_assign (v := .sc _) rfl) trivial ?_
  refine p_step rfl (e_assign (v := .sc _) rfl) trivial ?_
  refine p_end (hK33 _ ?_); clear hK33 K33
  refine pwp_seq_gops rfl fun K34 hK34 => ?_
  refine g_begin ?_
  refine g_step rfl rfl rfl rfl (e_move (v := .sc _) rfl) trivial ?_
  refine g_step rfl rfl rfl rfl (e_move (v := .sc _) rfl) trivial ?_
  refine g_step rfl rfl rfl rfl (e_eq rfl rfl) trivial ?_
  refine g_step rfl rfl rfl rfl (e_move (v := .sc _) rfl) trivial ?_
  refine g_cases (fun hb35 => ?_) (fun hb35 => ?_)
  ·have hb35R := hb35; simp only [z1, z2, z3, z4, z5, z6, ne_eq, z7, z8, z9, z10, z11, z12] at hb35
   refine g_step rfl rfl rfl rfl (e_move (v := .lit _ _ _) rfl) trivial ?_
   refine g_step rfl rfl rfl rfl (e_move (v := .lit _ _ _) rfl) trivial ?_
   refine g_call rfl rfl rfl rfl (.cons inn_lit (.cons inn_lit .nil)) (SameStock _ _ (Nat.le_trans (movesR_len xs ms) (by decide))) ?_
   refine g_step rfl rfl rfl rfl (e_pickT (v := .sc _) rfl rfl) trivial ?_
   refine g_step rfl rfl rfl rfl (e_move (v := .sc _) rfl) trivial ?_
   refine g_cases (fun hb36 => ?_) (fun hb36 => ?_)
   ·have hb36R := hb36; simp only [z1, z2, z3, z4, z5, z6, ne_eq, z7, z8, z9, z10, z11, z12] at hb36
    refine g_step rfl rfl rfl rfl (e_move (v := .sc _) rfl) trivial ?_
    refine g_step rfl rfl rfl rfl (e_move (v := .sc _) rfl) trivial ?_
    refine g_step rfl rfl rfl rfl (e_eq rfl rfl) trivial ?_
    refine g_step rfl rfl rfl rfl (e_pickT (v := .sc _) rfl rfl) trivial ?_
    refine g_step rfl rfl rfl rfl (e_assign (v := .sc _) rfl) trivial ?_
    refine g_end (ds := [70, 71, 72, 75, 76, 77]) rfl rfl (hK34 _ ?_); clear hK34 K34
    refine pwp_ret ?_
    refine end1 (v := .sc _) rfl ?_
    (refine out_b ?_; simp [hm0]; done)
   have hb36R := hb36; simp only [z1, z2, z3, z4, z5, z6, ne_eq, z7, z8, z9, z10, z11, z12] at hb36
   refine g_skip rfl rfl rfl ?_
   refine g_skip rfl rfl rfl ?_
   refine g_skip rfl rfl rfl ?_
   refine g_step rfl rfl rfl rfl (e_pickF (v := .sc _) rfl rfl) trivial ?_
   refine g_step rfl rfl rfl rfl (e_assign (v := .sc _) rfl) trivial ?_
   refine g_end (ds := [70, 71, 72, 75, 76, 77]) rfl rfl (hK34 _ ?_); clear hK34 K34
   refine pwp_ret ?_
   refine end1 (v := .sc _) rfl ?_
   (exfalso; simp_all; done)
  have hb35R := hb35; simp only [z1, z2, z3, z4, z5, z6, ne_eq, z7, z8, z9, z10, z11, z12] at hb35
  refine g_skip rfl rfl rfl ?_
  refine g_skip rfl rfl rfl ?_
  refine g_nocall rfl rfl rfl ?_
  refine g_step rfl rfl rfl rfl (e_pickF (v := .sc _) rfl rfl) trivial ?_
  refine g_step rfl rfl rfl rfl (e_move (v := .sc _) rfl) trivial ?_
  refine g_skip rfl rfl rfl ?_
  refine g_skip rfl rfl rfl ?_
  refine g_skip rfl rfl rfl ?_
  refine g_step rfl rfl rfl rfl (e_pickF (v := .sc _) rfl rfl) trivial ?_
  refine g_step rfl rfl rfl rfl (e_assign (v := .sc _) rfl) trivial ?_
  refine g_end (ds := [70, 71, 72, 75, 76, 77]) rfl rfl (hK34 _ ?_); clear hK34 K34
  refine pwp_ret ?_
  refine end1 (v := .sc _) rfl ?_
  (exfalso; simp_all; done)

end Go.Proofs.YtigdmkhdmbbfiaaDoor
