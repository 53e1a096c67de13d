import Derived.Test.YtigdmkhdmbbfiaaLtA
/- Sets as numbers: the operations on bits that Load makes. No conditions. -/
set_option linter.unusedSimpArgs false
set_option linter.unusedVariables false
namespace Go.Proofs.Ytigdmkhdmbbfiaa
open Go Go.Pv
section
variable {P : Program} {ρ : Operand → PV} {h : Heap} {key : Key} {x y : Operand} {t t' : TypeId}
theorem shl_tab : ∀ k, k < 13 → IntKind.i64.wrap ((1 : Int) * 2 ^ (min ((k : Nat) : Int).toNat IntKind.i64.bits)) = ((2 ^ k : Nat) : Int) := by decide +kernel
theorem e_shlS {k : Nat} (hx : ρ x = .int 1) (hy : ρ y = .int (k : Int)) (hk : k < 13) : eff P ρ h key (.binOp .shl t x y t') = ⟨True, .int ((2 ^ k : Nat) : Int), [], [], false⟩ := by
 simp only [eff, hx, hy, binEffN, binEff, intBin]
 rw [shl_tab k hk]; simp
theorem shr_tab : ∀ s, s < 64 → ∀ k, k < 6 → (((s : Nat) : Int).fdiv (2 ^ (min ((k : Nat) : Int).toNat IntKind.i64.bits))) = ((s / 2 ^ k : Nat) : Int) := by decide +kernel
theorem e_shrS {s k : Nat} (hx : ρ x = .int (s : Int)) (hy : ρ y = .int (k : Int)) (hs : s < 64) (hk : k < 6) : eff P ρ h key (.binOp .shr t x y t') = ⟨True, .int ((s / 2 ^ k : Nat) : Int), [], [], false⟩ := by
 simp only [eff, hx, hy, binEffN, binEff, intBin]
 rw [shr_tab s hs k hk]; simp
theorem and_tab : ∀ s, s < 64 → bits .and .i64 ((s : Nat) : Int) 1 = ((s % 2 : Nat) : Int) := by decide +kernel
theorem e_andS {s : Nat} (hx : ρ x = .int (s : Int)) (hy : ρ y = .int 1) (hs : s < 64) : eff P ρ h key (.binOp .and t x y t') = ⟨True, .int ((s % 2 : Nat) : Int), [], [], false⟩ := by
 simp only [eff, hx, hy, binEffN, binEff, intBin]
 rw [and_tab s hs]; simp
theorem an_tab : ∀ s, s < 64 → ∀ k, k < 6 → s / 2 ^ k % 2 = 1 → bits .andNot .i64 ((s : Nat) : Int) ((2 ^ k : Nat) : Int) = ((s - 2 ^ k : Nat) : Int) := by decide +kernel
theorem e_anS {s k : Nat} (hx : ρ x = .int (s : Int)) (hy : ρ y = .int ((2 ^ k : Nat) : Int)) (hs : s < 64) (hk : k < 6) (hh : hasI s k) : eff P ρ h key (.binOp .andNot t x y t') = ⟨True, .int ((s - 2 ^ k : Nat) : Int), [], [], false⟩ := by
 simp only [eff, hx, hy, binEffN, binEff, intBin]
 rw [an_tab s hs k hk hh]; simp
end
end Go.Proofs.Ytigdmkhdmbbfiaa

/- The chain of last items. No conditions. -/
set_option linter.unusedSimpArgs false
set_option linter.unusedVariables false
namespace Go.Proofs.Ytigdmkhdmbbfiaa
open Go Go.Pv
section
variable {ms : List Int} {M : Int}
theorem filV_z (hn : ms.length ≤ 6) (hms : ∀ x ∈ ms, 0 ≤ x ∧ x ≤ M) (hM : 0 ≤ M) {s : Nat} (hs : s < 2 ^ ms.length) (h0 : s ≠ 0) : ∃ i, i < ms.length ∧ hasI s i ∧ (filV ms M s).z = (i : Int) := by
 obtain ⟨i, h1, h2, h3⟩ := filV_at hn hms hM hs h0
 exact ⟨i, h1, h2, by rw [h3, step_z]⟩
/-- No lorry is empty. -/
theorem bin_ne (hn : ms.length ≤ 6) (hms : ∀ x ∈ ms, 0 ≤ x ∧ x ≤ M) (hM : 0 ≤ M) : ∀ s, s < 2 ^ ms.length → s ≠ 0 → ∀ b : Nat, (b : Int) < (filV ms M s).l → ∃ i, i < ms.length ∧ hasI s i ∧ binF ms M s i = b := fun s => by
 induction s using Nat.strongRecOn with
 | ind s ih =>
   intro hs h0 b hb
   have hs6 : s < 64 := Nat.lt_of_lt_of_le hs (Nat.pow_le_pow_right (by decide) hn)
   obtain ⟨i, hi, h2, h3⟩ := filV_at hn hms hM hs h0
   have hle := hasI_le h2
   have hpos : 0 < 2 ^ i := Nat.two_pow_pos i
   have hzi : (filV ms M s).z.toNat = i := by rw [h3, step_z, Int.toNat_natCast]
   have hbi : binF ms M s i = ((filV ms M s).l - 1).toNat := by rw [binF, if_neg h0, if_pos hzi.symm]
   have hx : 0 ≤ ms.getD i 0 ∧ ms.getD i 0 ≤ M := by rw [List.getD_eq_getElem?_getD, List.getElem?_eq_getElem hi]; exact hms _ (List.getElem_mem hi)
   by_cases hl : b = ((filV ms M s).l - 1).toNat
   · exact ⟨i, hi, h2, by rw [hbi, hl]⟩
   · by_cases h4 : s - 2 ^ i = 0
     · rw [h4, filV_0] at h3
       unfold stepF at h3
       rw [if_neg (by simp only; omega)] at h3
       rw [h3] at hb hl
       simp only at hb hl; omega
     · have hlm : (filV ms M s).l ≤ (filV ms M (s - 2 ^ i)).l + 1 := by
         rw [h3]; unfold stepF; split <;> simp only <;> omega
       obtain ⟨j, h5, h6, h7⟩ := ih (s - 2 ^ i) (by omega) (by omega) h4 b (by omega)
       have h8 := (hasI_del s hs6 i (by omega) h2 j (by omega)).1 h6
       refine ⟨j, h5, h8.1, ?_⟩
       rw [binF, if_neg h0, hzi, if_neg h8.2]; exact h7
end
end Go.Proofs.Ytigdmkhdmbbfiaa
