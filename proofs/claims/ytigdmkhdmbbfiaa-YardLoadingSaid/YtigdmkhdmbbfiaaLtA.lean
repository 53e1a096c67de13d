import Derived.Test.YtigdmkhdmbbfiaaLqA
/- The best filling's lorries are the least number that fits: plain law. No conditions. -/
set_option linter.unusedSimpArgs false
set_option linter.unusedVariables false
namespace Go.Proofs.Ytigdmkhdmbbfiaa
open Go Go.Pv
section
variable {ms : List Int} {M : Int} {s k i b : Nat}
theorem filK_at : ∀ {k : Nat}, filK ms M s k = ⟨ms.length + 1, 0, 0⟩ ∨ ∃ i, i < k ∧ hasI s i ∧ filK ms M s k = stepF M (ms.getD i 0) i (filV ms M (s - 2 ^ i))
 | 0 => .inl rfl
 | k + 1 => by
   rw [filK_s]
   by_cases h : hasI s k
   · rw [if_pos h]
     unfold pickF; split
     · exact .inr ⟨k, Nat.lt_succ_self k, h, rfl⟩
     · rcases filK_at (k := k) with h1 | ⟨i, h1, h2⟩
       · exact .inl h1
       · exact .inr ⟨i, by omega, h2⟩
   · rw [if_neg h]
     rcases filK_at (k := k) with h1 | ⟨i, h1, h2⟩
     · exact .inl h1
     · exact .inr ⟨i, by omega, h2⟩
theorem bin_id (hms : ∀ x ∈ ms, 0 ≤ x ∧ x ≤ M) (hM : 0 ≤ M) : binS ms (fun i => i) s b ms.length ≤ M := by
 have hg : ∀ j, j < ms.length → 0 ≤ ms.getD j 0 ∧ ms.getD j 0 ≤ M := fun j hj => by
   rw [List.getD_eq_getElem?_getD, List.getElem?_eq_getElem hj]; exact hms _ (List.getElem_mem hj)
 have h0 : ∀ n, lvl (fun _ => (0 : Int)) n = 0 := fun n => by
   induction n with
   | zero => rfl
   | succ n ih => rw [lvl, ih]; rfl
 rw [binS]
 by_cases hb : b < ms.length
 · rw [lvl_one (g := fun _ => 0) (d := if hasI s b then ms.getD b 0 else 0) hb (by
     by_cases e : hasI s b
     · rw [if_pos ⟨e, rfl⟩, if_pos e]; omega
     · rw [if_neg (fun q => e q.1), if_neg e]; omega) (fun j hj hjb => if_neg (fun q => hjb q.2)), h0]
   have := hg b hb
   split <;> omega
 · rw [lvl_same (g := fun _ => 0) (fun j hj => if_neg (fun q => by omega)), h0]; exact hM
theorem filV_l (hn : ms.length ≤ 6) (hms : ∀ x ∈ ms, 0 ≤ x ∧ x ≤ M) (hM : 0 ≤ M) (hs : s < 2 ^ ms.length) (h0 : s ≠ 0) : (filV ms M s).l ≤ ms.length := by
 have hp : ms.length ≠ 0 := fun e => by rw [e] at hs; exact h0 (by simpa using hs)
 have h1 := filV_le (c := fun i => i) (M := M) hn (fun x hx => (hms x hx).1) s hs (ms.length - 1) (fun i hi _ => by omega) (fun b _ => bin_id hms hM)
 unfold Fil.leq at h1
 simp only at h1; omega
theorem filV_at (hn : ms.length ≤ 6) (hms : ∀ x ∈ ms, 0 ≤ x ∧ x ≤ M) (hM : 0 ≤ M) (hs : s < 2 ^ ms.length) (h0 : s ≠ 0) : ∃ i, i < ms.length ∧ hasI s i ∧ filV ms M s = stepF M (ms.getD i 0) i (filV ms M (s - 2 ^ i)) := by
 have h1 := filV_l hn hms hM hs h0
 rw [filV_K h0] at h1 ⊢
 rcases filK_at (ms := ms) (M := M) (s := s) (k := ms.length) with h2 | h2
 · rw [h2] at h1; simp only at h1; omega
 · exact h2
/-- The lorry that the chain of last items puts an item on. -/
def binF (ms : List Int) (M : Int) (s i : Nat) : Nat :=
 if s = 0 then 0 else if i = (filV ms M s).z.toNat then ((filV ms M s).l - 1).toNat else binF ms M (s - 2 ^ (filV ms M s).z.toNat) i
termination_by s
decreasing_by
 have : 0 < 2 ^ (filV ms M s).z.toNat := Nat.two_pow_pos _
 omega
theorem step_z {x : Int} {f : Fil} : (stepF M x i f).z = (i : Int) := by unfold stepF; split <;> rfl
/-- The chain gives a loading. -/
theorem filV_bin (hn : ms.length ≤ 6) (hms : ∀ x ∈ ms, 0 ≤ x ∧ x ≤ M) (hM : 0 ≤ M) : ∀ s, s < 2 ^ ms.length → 1 ≤ (filV ms M s).l ∧ (∀ i, i < ms.length → hasI s i → (binF ms M s i : Int) < (filV ms M s).l) ∧ (∀ b, binS ms (binF ms M s) s b ms.length ≤ M) ∧ binS ms (binF ms M s) s ((filV ms M s).l - 1).toNat ms.length = (filV ms M s).m := fun s => by
 induction s using Nat.strongRecOn with
 | ind s ih =>
   intro hs
   have hs6 : s < 64 := Nat.lt_of_lt_of_le hs (Nat.pow_le_pow_right (by decide) hn)
   have hz : ∀ (c : Nat → Nat) b, binS ms c 0 b ms.length = 0 := fun c b => by
     have h1 : ∀ n, lvl (fun i => if hasI 0 i ∧ c i = b then ms.getD i 0 else 0) n = 0 := fun n => by
       induction n with
       | zero => rfl
       | succ n ih => rw [lvl, ih, if_neg (fun q => by have := q.1; rw [hasI, Nat.zero_div] at this; exact absurd this (by decide))]; rfl
     exact h1 _
   by_cases h0 : s = 0
   · subst h0
     rw [filV_0]
     refine ⟨Int.le_refl _, fun i hi q => ?_, fun b => by rw [hz]; exact hM, hz _ _⟩
     rw [hasI, Nat.zero_div] at q; exact absurd q (by decide)
   · obtain ⟨i, hi, h2, h3⟩ := filV_at hn hms hM hs h0
     have hle := hasI_le h2
     have hpos : 0 < 2 ^ i := Nat.two_pow_pos i
     obtain ⟨a1, a2, a3, a4⟩ := ih (s - 2 ^ i) (by omega) (by omega)
     have hzi : (filV ms M s).z.toNat = i := by rw [h3, step_z, Int.toNat_natCast]
     have hbi : binF ms M s i = ((filV ms M s).l - 1).toNat := by rw [binF, if_neg h0, if_pos hzi.symm]
     have hbj : ∀ j, j ≠ i → binF ms M s j = binF ms M (s - 2 ^ i) j := fun j hj => by rw [binF, if_neg h0, hzi, if_neg hj]
     have hx : 0 ≤ ms.getD i 0 ∧ ms.getD i 0 ≤ M := by rw [List.getD_eq_getElem?_getD, List.getElem?_eq_getElem hi]; exact hms _ (List.getElem_mem hi)
     have hd : ∀ b, binS ms (binF ms M s) (s - 2 ^ i) b ms.length = binS ms (binF ms M (s - 2 ^ i)) (s - 2 ^ i) b ms.length := fun b => lvl_same fun j hj => by
       by_cases e : j = i
       · subst e
         have h4 : ¬ hasI (s - 2 ^ j) j := fun q => ((hasI_del s hs6 j (by omega) h2 j (by omega)).1 q).2 rfl
         rw [if_neg (fun q => h4 q.1), if_neg (fun q => h4 q.1)]
       · rw [hbj j e]
     have hb1 : ∀ b, b = ((filV ms M s).l - 1).toNat → binS ms (binF ms M s) s b ms.length = binS ms (binF ms M (s - 2 ^ i)) (s - 2 ^ i) b ms.length + ms.getD i 0 := fun b e => by
       rw [bin_del hn hs6 hi h2 (by rw [hbi, e]), hd]
     have hb2 : ∀ b, b ≠ ((filV ms M s).l - 1).toNat → binS ms (binF ms M s) s b ms.length = binS ms (binF ms M (s - 2 ^ i)) (s - 2 ^ i) b ms.length := fun b e => by
       rw [bin_oth hn hs6 hi h2 (by rw [hbi]; exact fun q => e q.symm), hd]
     have hlm : ((filV ms M s).l = (filV ms M (s - 2 ^ i)).l + 1 ∧ (filV ms M s).m = ms.getD i 0) ∨ ((filV ms M s).l = (filV ms M (s - 2 ^ i)).l ∧ (filV ms M s).m = (filV ms M (s - 2 ^ i)).m + ms.getD i 0 ∧ (filV ms M s).m ≤ M) := by
       rw [h3]; unfold stepF; split
       · exact .inl ⟨rfl, rfl⟩
       · exact .inr ⟨rfl, rfl, by simp only; omega⟩
     have hnew : (filV ms M s).l = (filV ms M (s - 2 ^ i)).l + 1 → binS ms (binF ms M (s - 2 ^ i)) (s - 2 ^ i) ((filV ms M s).l - 1).toNat ms.length = 0 := fun e => by
       have h4 : ∀ n, n ≤ ms.length → lvl (fun j => if hasI (s - 2 ^ i) j ∧ binF ms M (s - 2 ^ i) j = ((filV ms M s).l - 1).toNat then ms.getD j 0 else 0) n = 0 := fun n => by
         induction n with
         | zero => intro _; rfl
         | succ n ihn =>
           intro hn2
           rw [lvl, ihn (by omega), if_neg (fun q => by have := a2 n (by omega) q.1; have := q.2; omega)]; rfl
       exact h4 _ (Nat.le_refl _)
     have hlast : binS ms (binF ms M s) s ((filV ms M s).l - 1).toNat ms.length = (filV ms M s).m := by
       rw [hb1 _ rfl]
       rcases hlm with ⟨e1, e2⟩ | ⟨e1, e2, _⟩
       · rw [hnew e1, e2]; omega
       · rw [e1, a4, e2]
     refine ⟨by omega, fun j hj q => ?_, fun b => ?_, hlast⟩
     · by_cases e : j = i
       · rw [e, hbi]; omega
       · have h4 := a2 j hj ((hasI_del s hs6 i (by omega) h2 j (by omega)).2 ⟨q, e⟩)
         rw [hbj j e]; omega
     · by_cases e : b = ((filV ms M s).l - 1).toNat
       · rw [e, hlast]
         rcases hlm with ⟨e1, e2⟩ | ⟨_, _, e2⟩
         · rw [e2]; exact hx.2
         · exact e2
       · rw [hb2 b e]; exact a3 b
end
end Go.Proofs.Ytigdmkhdmbbfiaa

/- The best filling of all items has the least number of lorries. No conditions. -/
set_option linter.unusedSimpArgs false
set_option linter.unusedVariables false
namespace Go.Proofs.Ytigdmkhdmbbfiaa
open Go Go.Pv
theorem lvl_front {f : Nat → Int} : ∀ {n : Nat}, lvl f (n + 1) = f 0 + lvl (fun j => f (j + 1)) n
 | 0 => by rw [lvl, lvl, lvl]; omega
 | n + 1 => by rw [lvl, lvl_front (n := n), lvl]; omega
theorem ldS_lvl {d : Nat → Nat} {b : Nat} : ∀ {r : List Item} {k : Nat}, ldS d b r k = lvl (fun j => if d (k + j) = b then (r.map Item.mass).getD j 0 else 0) r.length
 | [], _ => rfl
 | y :: r, k => by
   rw [List.length_cons, lvl_front, ldS, ldS_lvl (r := r)]
   congr 1
   refine lvl_same fun j hj => ?_
   rw [show k + 1 + j = k + (j + 1) by omega]; rfl
theorem full_has : ∀ n, n ≤ 6 → ∀ i, i < n → (2 ^ n - 1) / 2 ^ i % 2 = 1 := by decide +kernel
theorem bin_ld {its : List Item} {d : Nat → Nat} {b : Nat} (hn : its.length ≤ 6) : binS (its.map Item.mass) d (2 ^ its.length - 1) b (its.map Item.mass).length = ldS d b its 0 := by
 rw [ldS_lvl, binS, List.length_map]
 refine lvl_same fun j hj => ?_
 have h1 : hasI (2 ^ its.length - 1) j := full_has _ hn j hj
 rw [Nat.zero_add]
 by_cases e : d j = b
 · rw [if_pos ⟨h1, e⟩, if_pos e]
 · rw [if_neg (fun q => e q.2), if_neg e]
section
variable {its : List Item} {M : Int}
theorem lor_le (hn : its.length ≤ 6) (h0 : its ≠ []) (hm : ∀ y ∈ its, 0 ≤ y.mass ∧ y.mass ≤ M) {n : Nat} (hf : fitsV M n its [] = true) : (filV (its.map Item.mass) M (2 ^ its.length - 1)).l ≤ n := by
 obtain ⟨d, N, _, h2, h3, h4⟩ := fits_as (ls := []) (k := 0) (fun y hy => (hm y hy).2) (fun b hb => absurd hb (Nat.not_lt_zero _)) (by rw [List.length_nil]; omega) hf
 have hl : 0 < its.length := List.length_pos_iff.2 h0
 have h5 := h3 0 (Nat.le_refl _) (by omega)
 have hml : (its.map Item.mass).length = its.length := List.length_map _
 have h6 := filV_le (ms := its.map Item.mass) (M := M) (c := d) (by rw [hml]; exact hn) (fun x hx => by obtain ⟨y, hy, rfl⟩ := List.mem_map.1 hx; exact (hm y hy).1) (2 ^ its.length - 1) (by rw [hml]; have := Nat.two_pow_pos its.length; omega) (N - 1) (fun i hi _ => by rw [hml] at hi; have := h3 i (Nat.zero_le _) (by omega); omega) (fun b hb => by
   rw [bin_ld hn]
   have := h4 b (by omega)
   rw [getD_out (by rw [List.length_nil]; omega)] at this; omega)
 unfold Fil.leq at h6
 simp only at h6; omega
theorem lor_fits (hn : its.length ≤ 6) (hM : 0 ≤ M) (hm : ∀ y ∈ its, 0 ≤ y.mass ∧ y.mass ≤ M) : fitsV M (filV (its.map Item.mass) M (2 ^ its.length - 1)).l its [] = true := by
 have hml : (its.map Item.mass).length = its.length := List.length_map _
 obtain ⟨h1, h2, h3, _⟩ := filV_bin (ms := its.map Item.mass) (M := M) (by rw [hml]; exact hn) (fun x hx => by obtain ⟨y, hy, rfl⟩ := List.mem_map.1 hx; exact hm y hy) hM (2 ^ its.length - 1) (by rw [hml]; have := Nat.two_pow_pos its.length; omega)
 refine as_fits (k := 0) (d := binF (its.map Item.mass) M (2 ^ its.length - 1)) (N := (filV (its.map Item.mass) M (2 ^ its.length - 1)).l.toNat) (fun y hy => (hm y hy).1) (Nat.zero_le _) (by omega) (fun j _ hj => ?_) fun b _ => ?_
 · have := h2 j (by rw [hml]; omega) (full_has _ hn j (by omega)); omega
 · rw [← bin_ld hn, getD_out (Nat.zero_le _), Int.zero_add]; exact h3 b
/-- The least number of lorries is that of the best filling. -/
theorem lor_least (hn : its.length ≤ 6) (h0 : its ≠ []) (hM : 0 ≤ M) (hm : ∀ y ∈ its, 0 ≤ y.mass ∧ y.mass ≤ M) {n : Nat} (h1 : fitsV M n its [] = true) (h2 : ∀ j : Nat, j < n → fitsV M j its [] = false) : (filV (its.map Item.mass) M (2 ^ its.length - 1)).l = n := by
 have h3 := lor_le hn h0 hm h1
 have h4 := lor_fits hn hM hm
 have hml : (its.map Item.mass).length = its.length := List.length_map _
 have h5 := (filV_bin (ms := its.map Item.mass) (M := M) (by rw [hml]; exact hn) (fun x hx => by obtain ⟨y, hy, rfl⟩ := List.mem_map.1 hx; exact hm y hy) hM (2 ^ its.length - 1) (by rw [hml]; have := Nat.two_pow_pos its.length; omega)).1
 by_cases h6 : (filV (its.map Item.mass) M (2 ^ its.length - 1)).l < n
 · have h7 := h2 (filV (its.map Item.mass) M (2 ^ its.length - 1)).l.toNat (by omega)
   rw [Int.toNat_of_nonneg (by omega), h4] at h7; cases h7
 · omega
end
end Go.Proofs.Ytigdmkhdmbbfiaa
