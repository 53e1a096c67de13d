import Derived.Test.YtjmjiegplnfiiaaAccA
/- Orders that are right, turned round; the reverse of the reverse plan. Plain laws. No conditions. -/
set_option linter.unusedSimpArgs false
set_option linter.unusedVariables false
namespace Go.Proofs.Ytjmjiegplnfiiaa
open Go Go.Pv

/-! ### Right orders -/
def AccOK (nd : List (List Int)) (D : List Int) : Prop := ∀ k, k < D.length → accE nd (D.take k) (at0 D k) = 0
theorem acE_iff {nd : List (List Int)} {D : List Int} {z : Int} : accE nd D z = 0 ↔ (0 ≤ z ∧ z < nd.length) ∧ z ∉ D ∧ ∀ y ∈ nd_ nd z.toNat, y ∈ D := by
 unfold accE
 split
 · rename_i h; simp; intro h1 h2; omega
 · rename_i h
   split
   · rename_i h2; simp [h2]
   · rename_i h2
     split
     · rename_i h3
       constructor
       · intro q; cases q
       · rintro ⟨_, _, h4⟩; exact absurd h4 h3
     · rename_i h3
       exact ⟨fun _ => ⟨by omega, h2, Classical.not_not.1 h3⟩, fun _ => rfl⟩
theorem at0_append {l m : List Int} {i : Nat} (h : i < l.length) : at0 (l ++ m) i = at0 l i := by simp [at0, List.getElem?_append_left h]
theorem at0_last {l : List Int} {x : Int} : at0 (l ++ [x]) l.length = x := by simp [at0]
theorem mem_take {l : List Int} {k : Nat} {x : Int} : x ∈ l.take k ↔ ∃ i, i < k ∧ i < l.length ∧ at0 l i = x := by
 constructor
 · intro h
   obtain ⟨i, hi, e⟩ := mem_at0 h
   rw [List.length_take] at hi
   exact ⟨i, by omega, by omega, by rw [take_at (by omega)] at e; exact e⟩
 · rintro ⟨i, h1, h2, rfl⟩
   rw [← take_at h1]
   exact at0_mem (by rw [List.length_take]; omega)
section
variable {nd : List (List Int)} {D : List Int}
theorem AccOK.rng (h : AccOK nd D) : ∀ x ∈ D, 0 ≤ x ∧ x < nd.length := fun x hx => by
 obtain ⟨k, hk, rfl⟩ := mem_at0 hx
 exact (acE_iff.1 (h k hk)).1
theorem AccOK.ne (h : AccOK nd D) {i j : Nat} (hij : i < j) (hj : j < D.length) : at0 D i ≠ at0 D j := fun e =>
 (acE_iff.1 (h j hj)).2.1 (e ▸ mem_take.2 ⟨i, hij, by omega, rfl⟩)
theorem AccOK.nodup (h : AccOK nd D) : D.Nodup := by
 rw [List.Nodup, List.pairwise_iff_getElem]
 intro i j hi hj hij
 rw [at0_elem hi, at0_elem hj]
 exact h.ne hij hj
theorem AccOK.len (h : AccOK nd D) : D.length ≤ nd.length := pigeon _ _ h.nodup h.rng
theorem AccOK.all (h : AccOK nd D) (hl : nd.length ≤ D.length) {i : Nat} (hi : i < nd.length) : (i : Int) ∈ D := by
 refine Classical.byContradiction fun hn => ?_
 have := pigeon nd.length ((i : Int) :: D) (List.nodup_cons.2 ⟨hn, h.nodup⟩) fun x hx => by
   rcases List.mem_cons.1 hx with rfl | hx
   · omega
   · exact h.rng x hx
 simp only [List.length_cons] at this
 omega
theorem AccOK.nil : AccOK nd [] := fun k hk => absurd hk (Nat.not_lt_zero _)
theorem AccOK.snoc (h : AccOK nd D) {i : Nat} (hi : i < nd.length) (hr : rdyB nd D i = true) : AccOK nd (D ++ [(i : Int)]) := fun k hk => by
 rw [List.length_append, List.length_singleton] at hk
 by_cases e : k = D.length
 · subst e
   rw [at0_last, List.take_left]
   have h1 := rdyB_iff.1 hr
   exact acE_iff.2 ⟨by omega, h1.1, by rw [Int.toNat_natCast]; exact h1.2⟩
 · rw [at0_append (by omega), List.take_append_of_le_length (by omega)]
   exact h k (by omega)
theorem ordF_acc : ∀ (f : Nat) {D : List Int}, AccOK nd D → AccOK nd (ordF nd f D)
 | 0, D, h => h
 | f + 1, D, h => by
   unfold ordF
   cases e : leastR nd D with
   | none => exact h
   | some i =>
     rw [leastR, List.find?_range_eq_some] at e
     exact ordF_acc f (h.snoc (List.mem_range.1 e.2.1) e.1)
/-! ### Turned round -/
end
/-! ### The reverse of the reverse -/
end Go.Proofs.Ytjmjiegplnfiiaa

/- An order turned round is one of the reverse plan. No conditions. -/
set_option linter.unusedSimpArgs false
set_option linter.unusedVariables false
set_option maxRecDepth 100000
namespace Go.Proofs.Ytjmjiegplnfiiaa
open Go Go.Pv

end Go.Proofs.Ytjmjiegplnfiiaa
