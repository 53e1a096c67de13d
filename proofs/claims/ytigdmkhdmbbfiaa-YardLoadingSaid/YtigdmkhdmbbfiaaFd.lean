/- Pipes; which nodes are reached. No conditions. -/
import Derived.Test.YtigdmkhdmbbfiaaFc
set_option linter.unusedSimpArgs false
set_option linter.unusedVariables false
set_option maxRecDepth 100000
namespace Go.Proofs.Ytigdmkhdmbbfiaa
open Go Go.Pv
/-! ### Pipes -/
structure Pipe where
 til : Int
 room : Int
instance : Inhabited Pipe := ⟨⟨0, 0⟩⟩
def Pipe.enc (p : Pipe) : List PV := [.int p.til, .int p.room]
def opP (k : Nat) : Nat := if k % 2 = 0 then k + 1 else k - 1
def psOf : List (Arc × Int) → List Pipe
 | [] => []
 | q :: af => ⟨q.1.b, q.1.cap - q.2⟩ :: ⟨q.1.a, q.2⟩ :: psOf af
def tilP (ps : List Pipe) (k : Nat) : Int := (ps.getD k default).til
def roomP (ps : List Pipe) (k : Nat) : Int := (ps.getD k default).room
def froP (ps : List Pipe) (k : Nat) : Int := tilP ps (opP k)
section
variable {af : List (Arc × Int)} {q : Arc × Int} {k : Nat} {m : Int} {ps : List Pipe} {x : Pipe}
end
/-! ### Which nodes are reached -/
structure Bfs (ps : List Pipe) (N : Nat) (s : Int) (bs ord : List Int) : Prop where
 len : bs.length = N
 nd : ord.Nodup
 rng : ∀ v ∈ ord, 0 ≤ v ∧ v < (N : Int)
 mem : ∀ v : Int, 0 ≤ v → v < (N : Int) → (bs.getD v.toNat 0 ≠ -1 ↔ v ∈ ord)
 st : ord[0]? = some s
 s2 : bs.getD s.toNat 0 = -2
 pr : ∀ (j : Nat) (v : Int), ord[j]? = some v → j = 0 ∨ ∃ k : Nat, k < ps.length ∧ bs.getD v.toNat 0 = (k : Int) ∧ tilP ps k = v ∧ 0 < roomP ps k ∧ ∃ i, i < j ∧ ord[i]? = some (froP ps k)
structure AdjOK (ps : List Pipe) (N : Nat) (fs : List (List Int)) : Prop where
 len : fs.length = N
 rng : ∀ k, k < ps.length → (0 ≤ tilP ps k ∧ tilP ps k < (N : Int))
 inn : ∀ u, u < N → ∀ k ∈ fs.getD u [], ∃ j : Nat, k = (j : Int) ∧ j < ps.length ∧ froP ps j = (u : Int)
 all : ∀ j, j < ps.length → (j : Int) ∈ fs.getD (froP ps j).toNat []
section
variable {ps : List Pipe} {N : Nat} {s v w : Int} {bs ord done : List Int} {fs : List (List Int)} {k : Nat}
theorem getD_set {l : List Int} {i j : Nat} {a : Int} (hi : i < l.length) : (l.set i a).getD j 0 = if j = i then a else l.getD j 0 := by
 rw [List.getD_eq_getElem?_getD, List.getElem?_set]
 by_cases e : i = j
 · subst e; rw [if_pos rfl, if_pos hi, if_pos rfl]; rfl
 · rw [if_neg e, if_neg (fun q => e q.symm), ← List.getD_eq_getElem?_getD]
theorem Bfs.zero (hs : 0 ≤ s ∧ s < (N : Int)) : Bfs ps N s ((List.replicate N (-1)).set s.toNat (-2)) [s] := by
 have hl : s.toNat < (List.replicate N (-1 : Int)).length := by rw [List.length_replicate]; omega
 refine ⟨by simp, by simp, fun v hv => by simp at hv; subst hv; exact hs, fun v h0 hN => ?_, rfl, by rw [getD_set hl, if_pos rfl], fun j v hj => ?_⟩
 · rw [getD_set hl, List.mem_singleton]
   by_cases e : v = s
   · subst e; rw [if_pos rfl]; exact ⟨fun _ => rfl, fun _ => by decide⟩
   · rw [if_neg (by omega), List.getD_eq_getElem?_getD, List.getElem?_replicate, if_pos (by omega)]
     exact ⟨fun q => absurd rfl q, fun q => absurd q e⟩
 · cases j with
   | zero => exact .inl rfl
   | succ j => simp at hj
/-- What is reached from the nodes that are done is reached. -/
def ClOK (ps : List Pipe) (fs : List (List Int)) (bs done : List Int) : Prop := ∀ u ∈ done, ∀ k ∈ fs.getD u.toNat [], 0 < roomP ps k.toNat → bs.getD (tilP ps k.toNat).toNat 0 ≠ -1
structure Rch (ps : List Pipe) (N : Nat) (s : Int) (bs : List Int) : Prop where
 ex : ∃ ord, Bfs ps N s bs ord
 cl : ∀ k, k < ps.length → bs.getD (froP ps k).toNat 0 ≠ -1 → 0 < roomP ps k → bs.getD (tilP ps k).toNat 0 ≠ -1
end

end Go.Proofs.Ytigdmkhdmbbfiaa
