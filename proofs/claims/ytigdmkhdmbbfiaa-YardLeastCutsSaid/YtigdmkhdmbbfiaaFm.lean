/- Trips that meet as much as possible, as the program tells it. No conditions. -/
import Derived.Test.YtigdmkhdmbbfiaaFl
set_option linter.unusedSimpArgs false
set_option linter.unusedVariables false
set_option maxRecDepth 100000
namespace Go.Proofs.Ytigdmkhdmbbfiaa
open Go Go.Pv
/-! ### Trips and cuts that the program gives -/
theorem vpg (vP : PV) : ∃ gP, ∀ g m, vP = .ref (26, g) 2 0 m → g = gP := by
 by_cases h : ∃ g m, vP = .ref (26, g) 2 0 m
 · obtain ⟨g0, m0, h0⟩ := h
   exact ⟨g0, fun g m h1 => by rw [h0] at h1; cases h1; rfl⟩
 · exact ⟨0, fun g m h1 => absurd ⟨g, m, h1⟩ h⟩
section
variable {t : Traffic} {N : Nat} {h h' h0 : Heap} {gp gF gm gP b n d : Nat} {vP v : PV} {vs : List PV} {ps : List Pipe} {cs : Nat → List Int} {c0 c c' : Nat → Nat} {r : Nat → PV} {af : List (Arc × Int)} {q : Arc × Int} {j : Nat} {s : Int} {bs bs2 : List Int}
theorem OldS.pp (hO : OldS c0 h0 h c) (hP : OldP gP c h h' c') : OldS c0 h0 h' c' :=
 ⟨fun k h1 hk => (hP.1 k (Nat.lt_of_lt_of_le hk (hO.2 _)) (inS_ne h1 26 (by simp [siS]) _)).trans (hO.1 k h1 hk), fun x => Nat.le_trans (hO.2 x) (hP.2 x)⟩
theorem OldS.old (hO : OldS c0 h0 h c) (hN : Old c h h' c') : OldS c0 h0 h' c' :=
 ⟨fun k h1 hk => (hN.get (Nat.lt_of_lt_of_le hk (hO.2 _))).trans (hO.1 k h1 hk), fun x => Nat.le_trans (hO.2 x) (hN.mo x)⟩
theorem OldS.trans (hO : OldS c0 h0 h c) (hN : OldS c h h' c') : OldS c0 h0 h' c' :=
 ⟨fun k h1 hk => (hN.1 k h1 (Nat.lt_of_lt_of_le hk (hO.2 _))).trans (hO.1 k h1 hk), fun x => Nat.le_trans (hO.2 x) (hN.2 x)⟩
/-- Another place of the text is written to, at keys that are new. -/
theorem OldS.app {u : PV} {m : Nat} (hO : OldS c0 h0 h c) (hu : ∀ g, u = .ref (d, g) m 0 n → c0 d ≤ g) (hf : ∀ k' : Key, k' ≠ (d, c d) → (∀ g, u = .ref (d, g) m 0 n → k' ≠ (d, g)) → h' k' = h k') (hc : ∀ x, c x ≤ c' x) : OldS c0 h0 h' c' :=
 ⟨fun k h1 hk => (hf k (fun e => by rw [e] at hk; exact absurd (Nat.lt_of_lt_of_le hk (hO.2 d)) (Nat.lt_irrefl _)) (fun g hg e => by rw [e] at hk; exact absurd (Nat.lt_of_lt_of_le hk (hu g hg)) (Nat.lt_irrefl _))).trans (hO.1 k h1 hk), fun x => Nat.le_trans (hO.2 x) (hc x)⟩
/-- What is reached is reached by whichever way. -/
theorem Rch.same (h1 : Rch ps N s bs) (h2 : Rch ps N s bs2) (hop : ∀ k, k < ps.length → opP k < ps.length) {v : Int} (h0 : 0 ≤ v) (hN : v < (N : Int)) (hv : bs2.getD v.toNat 0 ≠ -1) : bs.getD v.toNat 0 ≠ -1 := by
 obtain ⟨ord, hB⟩ := h1.ex
 obtain ⟨ord2, hB2⟩ := h2.ex
 have main : ∀ n, ∀ v ∈ ord2, ord2.idxOf v ≤ n → bs.getD v.toNat 0 ≠ -1 := fun n => by
   induction n with
   | zero =>
     intro v hv hn
     by_cases e : v = s
     · subst e; rw [hB.s2]; decide
     · obtain ⟨_, _, _, _, _, h6⟩ := hB2.pred hv e; omega
   | succ n ih =>
     intro v hv hn
     by_cases e : v = s
     · subst e; rw [hB.s2]; decide
     · obtain ⟨k1, k2, k3, k4, k5, k6⟩ := hB2.pred hv e
       have h7 := ih _ k5 (by omega)
       have h8 := h1.cl (byN bs2 v) k1 h7 k4
       rwa [k3] at h8
 exact main _ v ((hB2.mem v h0 hN).1 hv) (Nat.le_refl _)
end
/-- What Cut hands back. -/
def CutR (t : Traffic) (h0 : Heap) (c0 : Nat → Nat) (v : PV) (h : Heap) (c : Nat → Nat) : Prop :=
 OldS c0 h0 h c ∧ ((trafE t ≠ 0 ∧ v = .tup [.nil, .int 0, .int (trafE t)]) ∨ (trafE t = 0 ∧ ∃ u k n, v = .tup [u, .int n, .int 0] ∧ SliceAt h 62 u 2 (k.map At.enc) ∧ k.length ≤ 160 ∧ cutV t k = (n, 0) ∧ ∃ l, tripE t l = (n, 0)))

end Go.Proofs.Ytigdmkhdmbbfiaa
