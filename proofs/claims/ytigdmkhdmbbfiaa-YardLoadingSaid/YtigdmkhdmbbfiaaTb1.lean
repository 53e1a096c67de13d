/- Tables that are built row by row: plain laws. No conditions. -/
import Derived.Test.YtigdmkhdmbbfiaaTp3
set_option linter.unusedSimpArgs false
set_option linter.unusedVariables false
set_option maxRecDepth 100000
namespace Go.Proofs.Ytigdmkhdmbbfiaa
open Go Go.Pv
/-! ### Tables that are built row by row -/
def rfV (s D g : Nat) : PV := .ref (s, g) 1 0 D
structure Old (c0 : Nat → Nat) (h0 h : Heap) (c : Nat → Nat) : Prop where
 old : ∀ k : Key, k.2 < c0 k.1 → h k = h0 k
 mo : ∀ x, c0 x ≤ c x
structure Bld (c0 : Nat → Nat) (h0 h : Heap) (c : Nat → Nat) (v : PV) (a s D : Nat) (gs : List Nat) : Prop where
 nd : gs.Nodup
 ge : ∀ g ∈ gs, c0 s ≤ g
 inn : ∀ g ∈ gs, h (s, g) = some (.rows 1 ((List.replicate D (0 : Int)).map ci))
 old : Old c0 h0 h c
 out : (gs = [] ∧ v = .nil) ∨ ∃ g n, c0 a ≤ g ∧ v = .ref (a, g) 1 0 n ∧ n = gs.length ∧ h (a, g) = some (.rows 1 ((gs.map (rfV s D)).map cv))
section
variable {c0 c : Nat → Nat} {h0 h h2 : Heap} {v : PV} {a b s D n : Nat} {gs : List Nat}
theorem Old.refl : Old c0 h0 h0 c0 := ⟨fun _ _ => rfl, fun _ => Nat.le_refl _⟩
theorem Old.new {d : Nat} {o : Option PObj} (hO : Old c0 h0 h c) : Old c0 h0 (hset h (d, c d) o) (cset c d) :=
 ⟨fun k hk => (hset_ne (fun e => by rw [e] at hk; exact absurd (Nat.lt_of_lt_of_le hk (hO.mo d)) (Nat.lt_irrefl _))).trans (hO.old k hk), fun x => by
   have := hO.mo x; unfold cset; split <;> omega⟩
theorem Old.upd {k : Key} {o : Option PObj} (hO : Old c0 h0 h c) (hk : c0 k.1 ≤ k.2) : Old c0 h0 (hset h k o) c :=
 ⟨fun k' hk' => (hset_ne (fun e => by rw [e] at hk'; omega)).trans (hO.old k' hk'), hO.mo⟩
theorem Old.get {k : Key} (hO : Old c0 h0 h c) (hk : k.2 < c0 k.1) : h k = h0 k := hO.old k hk
end

end Go.Proofs.Ytigdmkhdmbbfiaa
