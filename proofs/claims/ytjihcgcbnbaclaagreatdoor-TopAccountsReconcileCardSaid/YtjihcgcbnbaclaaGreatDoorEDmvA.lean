import Derived.Test.YtjihcgcbnbaclaaGreatDoorEDmv2
set_option linter.unusedSimpArgs false
set_option linter.unusedVariables false
set_option maxRecDepth 100000
set_option maxHeartbeats 8000000
namespace Go.Proofs.YtjihcgcbnbaclaaGreatDoor.Y8
open Go Go.Pv Go.Proofs.YtjihcgcbnbaclaaGreatDoor
theorem lstG_mem {m : Sto} : ∀ (ks : List Kx) (acc : List Stock), (lstG m acc ks).1 = 0 → ∀ e ∈ (lstG m acc ks).2, e ∈ acc ∨ ∃ k ∈ ks, e = ⟨k.part, k.place, k.state, getS k m⟩ ∧ 0 < getS k m ∧ getS k m ≤ 1000000
 | [], acc, _, e, he => .inl he
 | k :: ks, acc, h, e, he => by
   unfold lstG at h he;by_cases h1 : 1000000 < getS k m
   · rw [if_pos h1] at h; cases h
   · rw [if_neg h1] at h he;rcases lstG_mem ks _ h e he with h2 | ⟨k', h2, h3⟩
     · by_cases h4 : 0 < getS k m
       · rw [if_pos h4] at h2;rcases List.mem_append.1 h2 with h5 | h5
         · exact .inl h5
         · simp only [List.mem_singleton] at h5;exact .inr ⟨k, List.mem_cons_self, h5, h4, by omega⟩
       · rw [if_neg h4] at h2; exact .inl h2
     · exact .inr ⟨k', List.mem_cons_of_mem _ h2, h3⟩
theorem keysS_mem {m : Sto} {k : Kx} : k ∈ keysS m ↔ k ∈ m.map (·.1) := by
 unfold keysS;constructor
 · intro h;obtain ⟨y, hy, rfl⟩ := List.mem_map.1 h;rw [(sortSh_perm _).mem_iff] at hy;obtain ⟨e, he, rfl⟩ := List.mem_map.1 hy;exact List.mem_map.2 ⟨e, he, rfl⟩
 · intro h;obtain ⟨e, he, rfl⟩ := List.mem_map.1 h;refine List.mem_map.2 ⟨kSh e.1, ?_, rfl⟩;rw [(sortSh_perm _).mem_iff];exact List.mem_map.2 ⟨e, he, rfl⟩
theorem listS_cases (m : Sto) : ((listS m).1 = 0 ∧ (lstG m [] (keysS m)).1 = 0 ∧ listS m = lstG m [] (keysS m) ∧ (listS m).2.length ≤ 200) ∨ (listS m).1 ≠ 0 ∧ (listS m).2 = [] := by
 unfold listS;dsimp only;by_cases h : (lstG m [] (keysS m)).1 = 0
 · rw [if_pos h];by_cases h2 : 200 < (lstG m [] (keysS m)).2.length
   · rw [if_pos h2]; exact .inr ⟨by decide, rfl⟩
   · rw [if_neg h2]; exact .inl ⟨h, h, rfl, by omega⟩
 · rw [if_neg h]; exact .inr ⟨h, rfl⟩
theorem listS_mem {m : Sto} : ∀ e ∈ (listS m).2, keyS e ∈ m.map (·.1) ∧ 0 < e.count ∧ e.count ≤ 1000000 := fun e he => by
 rcases listS_cases m with ⟨_, h2, h3, _⟩ | ⟨_, h2⟩
 · rw [h3] at he;rcases lstG_mem _ _ h2 e he with h4 | ⟨k, h4, rfl, h5⟩
   · simp at h4
   · exact ⟨keysS_mem.1 h4, h5⟩
 · rw [h2] at he; simp at he
theorem moveR_mem {xs : List Stock} {m : Movement} : ∀ e ∈ (moveR xs m).2, (stockE xs = 0 ∧ mvE m = 0) ∧ (∃ x ∈ xs ++ (extF m ++ extT m), keyS e = keyS x) ∧ 0 < e.count ∧ e.count ≤ 1000000 := fun e he => by
 unfold moveR at he;by_cases h1 : stockE xs = 0
 · rw [if_neg (by simpa using h1)] at he;by_cases h2 : mvE m = 0
   · rw [if_neg (by simpa using h2)] at he;by_cases h3 : lack xs m
     · rw [if_pos h3] at he; simp at he
     · rw [if_neg h3] at he;obtain ⟨h4, h5⟩ := listS_mem e he;rw [sumS_keys] at h4;rcases h4 with h4 | h4
       · simp at h4
       · obtain ⟨x, hx, hk⟩ := List.mem_map.1 h4;exact ⟨⟨h1, h2⟩, ⟨x, hx, hk.symm⟩, h5⟩
   · rw [if_pos h2] at he; simp at he
 · rw [if_pos h1] at he; simp at he
theorem keyS_part {x y : Stock} (h : keyS x = keyS y) : x.part = y.part ∧ x.place = y.place ∧ x.state = y.state := by
 unfold keyS at h; simpa using h
theorem goS_name : ∀ {l : List Stock}, goS l = 0 → ∀ x ∈ l, isNm x.part = true
 | [], _, x, hx => by simp at hx
 | y :: l, h, x, hx => by
   unfold goS at h;split at h
   · cases h
   · rename_i h1;split at h
     · cases h
     · rcases List.mem_cons.1 hx with rfl | hx
       · simpa using h1
       · exact goS_name h x hx
theorem goS_of : ∀ {l : List Stock}, (∀ x ∈ l, isNm x.part = true ∧ ¬ badS x) → goS l = 0
 | [], _ => rfl
 | y :: l, h => by
   unfold goS;rw [if_neg (by simp [(h y List.mem_cons_self).1]), if_neg (h y List.mem_cons_self).2];exact goS_of fun x hx => h x (List.mem_cons_of_mem _ hx)
theorem stockE_name {l : List Stock} (h : stockE l = 0) : ∀ x ∈ l, isNm x.part = true := by
 unfold stockE at h;split at h
 · cases h
 · exact goS_name h
theorem moveR_len (xs : List Stock) (m : Movement) : (moveR xs m).2.length ≤ 200 := by
 unfold moveR;split
 · simp
 · split
   · simp
   · split
     · simp
     · rcases listS_cases (sumS [] (xs ++ (extF m ++ extT m))) with ⟨_, _, _, h⟩ | ⟨_, h⟩
       · exact h
       · rw [h]; simp
theorem ext_ok {m : Movement} (h : mvE m = 0) : ∀ x ∈ extF m ++ extT m, isNm x.part = true ∧ (0 ≤ x.place ∧ x.place ≤ 99) ∧ 0 ≤ x.state ∧ x.state ≤ 3 := fun x hx => by
 obtain ⟨h1, h2, _⟩ := mvE_ok h;unfold rngQ at h2;rcases List.mem_append.1 hx with hx | hx
 · unfold extF at hx;split at hx
   · rename_i h3;simp only [List.mem_singleton] at hx; subst hx;exact ⟨h1, ⟨show 0 ≤ m.fro by omega, show m.fro ≤ 99 by omega⟩, show 0 ≤ m.before by omega, show m.before ≤ 3 by omega⟩
   · simp at hx
 · unfold extT at hx;split at hx
   · rename_i h3;simp only [List.mem_singleton] at hx; subst hx;exact ⟨h1, ⟨show 0 ≤ m.til by omega, show m.til ≤ 99 by omega⟩, show 0 ≤ m.after by omega, show m.after ≤ 3 by omega⟩
   · simp at hx
theorem moveR_ok {xs : List Stock} {m : Movement} : stockE (moveR xs m).2 = 0 := by
 rw [stockE_le (moveR_len xs m)];refine goS_of fun e he => ?_;obtain ⟨⟨h1, h2⟩, ⟨x, hx, hk⟩, h3⟩ := moveR_mem e he;obtain ⟨k1, k2, k3⟩ := keyS_part hk;unfold badS;rw [k1, k2, k3];rcases List.mem_append.1 hx with hx | hx
 · have := (stockE_ok h1).2 x hx;exact ⟨stockE_name h1 x hx, by omega⟩
 · have := ext_ok h2 x hx;exact ⟨this.1, by omega⟩
end Go.Proofs.YtjihcgcbnbaclaaGreatDoor.Y8

set_option linter.unusedSimpArgs false
set_option linter.unusedVariables false
set_option maxRecDepth 100000
set_option maxHeartbeats 8000000
namespace Go.Proofs.YtjihcgcbnbaclaaGreatDoor.Y8
open Go Go.Pv Go.Proofs.YtjihcgcbnbaclaaGreatDoor
theorem setG_filter : ∀ (l acc : List Stock), (setG acc l).1 = 0 → (setG acc l).2 = acc ++ l.filter fun y => decide (y.count ≠ 0)
 | [], acc, _ => by simp [setG]
 | y :: l, acc, h => by
   unfold setG at h ⊢;by_cases h1 : 1000000 < y.count
   · rw [if_pos h1] at h; cases h
   · rw [if_neg h1] at h ⊢;by_cases h2 : y.count ≠ 0
     · rw [if_pos h2] at h ⊢;rw [setG_filter l _ h, List.filter_cons_of_pos (by simpa using h2), List.append_assoc]; rfl
     · rw [if_neg h2] at h ⊢;rw [setG_filter l _ h, List.filter_cons_of_neg (by simpa using h2)]
theorem settS_filter {l : List Stock} (h : (settS l).1 = 0) : (settS l).2 = l.filter fun y => decide (y.count ≠ 0) := by
 unfold settS at h ⊢;dsimp only at h ⊢;by_cases h1 : (setG [] l).1 = 0
 · rw [if_pos h1] at h ⊢;by_cases h2 : 200 < (setG [] l).2.length
   · rw [if_pos h2] at h; cases h
   · rw [if_neg h2]; rw [setG_filter l [] h1]; rfl
 · rw [if_neg h1] at h; exact absurd h h1
theorem cntS_filter (k : Kx) : ∀ l : List Stock, cntS k (l.filter fun y => decide (y.count ≠ 0)) = cntS k l
 | [] => rfl
 | y :: l => by
   by_cases h : y.count ≠ 0
   · rw [List.filter_cons_of_pos (by simpa using h)]; simp only [cntS]; rw [cntS_filter k l]
   · rw [List.filter_cons_of_neg (by simpa using h), cntS_filter k l];simp only [cntS];have : y.count = 0 := by omega
     rw [this]; split <;> omega
def totC (p : ByteArray) : List Stock → Int
 | [] => 0
 | x :: l => (if x.part = p then x.count else 0) + totC p l
theorem totS_eq (p : ByteArray) : ∀ (l : List Stock) (s : Int), totS p s l = s + totC p l
 | [], s => by simp [totS, totC]
 | x :: l, s => by unfold totS totC; rw [totS_eq p l]; split <;> omega
theorem totC_app (p : ByteArray) : ∀ (l l' : List Stock), totC p (l ++ l') = totC p l + totC p l'
 | [], l' => by simp [totC]
 | x :: l, l' => by simp only [List.cons_append, totC]; rw [totC_app p l l']; omega
theorem totC_filter (p : ByteArray) : ∀ l : List Stock, totC p (l.filter fun y => decide (y.count ≠ 0)) = totC p l
 | [] => rfl
 | y :: l => by
   by_cases h : y.count ≠ 0
   · rw [List.filter_cons_of_pos (by simpa using h)]; simp only [totC]; rw [totC_filter p l]
   · rw [List.filter_cons_of_neg (by simpa using h), totC_filter p l];simp only [totC];have : y.count = 0 := by omega
     rw [this]; split <;> omega
theorem befS_eqpart {x y : Stock} (h : befS y x = false) (h2 : befS x y = false) : x.part = y.part := by
 by_cases e : x.part = y.part
 · exact e
 · exfalso;rw [← befS_1 (fun h3 => e h3.symm), ltB_leS] at h;rw [← befS_1 e, ltB_leS] at h2;simp only [Bool.not_eq_false'] at h h2;refine e (ByteArray.ext (Array.ext' (leS_anti ?_ ?_)))
   · exact h
   · exact h2
theorem totC_putS (p : ByteArray) (x : Stock) : ∀ l : List Stock, totC p (putS x l) = (if x.part = p then x.count else 0) + totC p l
 | [] => by simp [putS, totC]
 | y :: l => by
   unfold putS;cases h1 : befS y x with
   | true => rw [cond_true]; simp only [totC]; rw [totC_putS p x l]; omega
   | false =>
     rw [cond_false];cases h2 : befS x y with
     | true => rw [cond_true]; simp only [totC]
     | false =>
       rw [cond_false];have := befS_eqpart h1 h2;simp only [totC];rw [← this];split <;> omega
theorem totC_putF (p : ByteArray) : ∀ (l out : List Stock), totC p (putF out l) = totC p out + totC p l
 | [], out => by simp [putF, totC]
 | x :: l, out => by simp only [putF, totC]; rw [totC_putF p l, totC_putS]; omega
theorem move_parts {xs : List Stock} {m : Movement} (h : stockE xs = 0) (h2 : (moveR xs m).1 = 0) : mvE m = 0 ∧ ¬ lack xs m ∧ moveR xs m = settS (putF [] (xs ++ (extF m ++ extT m))) := by
 have hr := move_ref (m := m) h;by_cases h3 : mvE m = 0
 · by_cases h4 : lack xs m
   · rw [hr, refMoveR, if_neg (by simpa using h3), if_pos h4] at h2; cases h2
   · exact ⟨h3, h4, by rw [hr, refMoveR, if_neg (by simpa using h3), if_neg h4]⟩
 · rw [hr, refMoveR, if_pos h3] at h2; exact absurd h2 h3
def moreQ (m : Movement) (p : ByteArray) : Int := if p = m.part ∧ m.til = -1 then 0 - m.count else if p = m.part ∧ m.fro = -1 then m.count else 0
theorem ext_tot {m : Movement} {p : ByteArray} (h : mvE m = 0) : totC p (extF m ++ extT m) = moreQ m p := by
 have hp := (mvE_ok h).2.2;simp only [permP, decide_eq_true_eq] at hp;have h0 : ¬ (m.fro = -1 ∧ m.til = -1) := by unfold permQ at hp; omega
 rw [totC_app];unfold moreQ
 have e1 : totC p (extF m) = if m.fro ≠ -1 then (if m.part = p then 0 - m.count else 0) else 0 := by
   unfold extF; split <;> simp [totC]
 have e2 : totC p (extT m) = if m.til ≠ -1 then (if m.part = p then m.count else 0) else 0 := by
   unfold extT; split <;> simp [totC]
 rw [e1, e2];by_cases h1 : m.part = p
 · have h1' : p = m.part := h1.symm;simp only [h1', true_and, if_true];by_cases h2 : m.fro = -1 <;> by_cases h3 : m.til = -1
   · exact absurd ⟨h2, h3⟩ h0
   · rw [if_neg (by simpa using h2), if_pos h3, if_neg h3, if_pos h2]; omega
   · rw [if_pos h2, if_neg (by simpa using h3), if_pos h3]; omega
   · rw [if_pos h2, if_pos h3, if_neg h3, if_neg h2]; omega
 · have h1' : ¬ p = m.part := fun e => h1 e.symm;simp only [h1, h1', false_and, if_false];split <;> split <;> rfl
theorem tot_move {xs : List Stock} {m : Movement} {p : ByteArray} (h : stockE xs = 0) (h2 : (moveR xs m).1 = 0) : totW (moveR xs m).2 p = totW xs p + moreQ m p := by
 obtain ⟨h3, h4, h5⟩ := move_parts h h2;rw [totW, totW, if_pos moveR_ok, if_pos h, totS_eq, totS_eq, Int.zero_add, Int.zero_add];rw [h5] at h2 ⊢;rw [settS_filter h2, totC_filter, totC_putF, totC_app, ext_tot h3];simp [totC]
theorem cnt_move {xs : List Stock} {m : Movement} (h : stockE xs = 0) (h2 : (moveR xs m).1 = 0) (k : Kx) : cntS k (moveR xs m).2 = cntS k xs + cntS k (extF m ++ extT m) := by
 obtain ⟨h3, h4, h5⟩ := move_parts h h2;rw [h5] at h2 ⊢;rw [settS_filter h2, cntS_filter, putF_cnt, cntS_app]; simp [cntS]
theorem cnt_F (m : Movement) (k : Kx) : cntS k (extF m) = if m.fro ≠ -1 ∧ (⟨m.part, m.fro, m.before⟩ : Kx) = k then 0 - m.count else 0 := by
 unfold extF;by_cases h : m.fro ≠ -1
 · rw [if_pos h];by_cases h2 : (⟨m.part, m.fro, m.before⟩ : Kx) = k
   · rw [if_pos ⟨h, h2⟩, cntS, if_pos (show keyS (⟨m.part, m.fro, m.before, 0 - m.count⟩ : Stock) = k from h2)]; simp [cntS]
   · rw [if_neg (fun h3 => h2 h3.2), cntS, if_neg (show ¬ keyS (⟨m.part, m.fro, m.before, 0 - m.count⟩ : Stock) = k from h2)]; simp [cntS]
 · rw [if_neg h, if_neg (fun h3 => h h3.1)]; rfl
theorem cnt_T (m : Movement) (k : Kx) : cntS k (extT m) = if m.til ≠ -1 ∧ (⟨m.part, m.til, m.after⟩ : Kx) = k then m.count else 0 := by
 unfold extT;by_cases h : m.til ≠ -1
 · rw [if_pos h];by_cases h2 : (⟨m.part, m.til, m.after⟩ : Kx) = k
   · rw [if_pos ⟨h, h2⟩, cntS, if_pos (show keyS (⟨m.part, m.til, m.after, m.count⟩ : Stock) = k from h2)]; simp [cntS]
   · rw [if_neg (fun h3 => h2 h3.2), cntS, if_neg (show ¬ keyS (⟨m.part, m.til, m.after, m.count⟩ : Stock) = k from h2)]; simp [cntS]
 · rw [if_neg h, if_neg (fun h3 => h h3.1)]; rfl
theorem mq_0 {m : Movement} {p : ByteArray} (h2 : ¬ (p = m.part ∧ m.fro = -1)) (h3 : ¬ (p = m.part ∧ m.til = -1)) : moreQ m p = 0 := by rw [moreQ, if_neg h3, if_neg h2]
end Go.Proofs.YtjihcgcbnbaclaaGreatDoor.Y8
