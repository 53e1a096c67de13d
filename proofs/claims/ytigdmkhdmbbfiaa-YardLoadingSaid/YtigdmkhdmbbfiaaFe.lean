/- Ways in a network; what is pushed along them. No conditions. -/
import Derived.Test.YtigdmkhdmbbfiaaFd
set_option linter.unusedSimpArgs false
set_option linter.unusedVariables false
set_option maxRecDepth 100000
namespace Go.Proofs.Ytigdmkhdmbbfiaa
open Go Go.Pv
/-! ### Ways back to the start -/
def byN (bs : List Int) (v : Int) : Nat := (bs.getD v.toNat 0).toNat
section
variable {ps : List Pipe} {N : Nat} {s v w : Int} {bs ord : List Int}
end
/-- What is pushed along a way, from its end to a node of it. -/
structure Aug (af : List (Arc × Int)) (bs ord : List Int) (s e m at_ : Int) (af' : List (Arc × Int)) : Prop where
 ar : af'.map (·.1) = af.map (·.1)
 cap : ∀ q ∈ af', 0 ≤ q.2 ∧ q.2 ≤ q.1.cap
 ex : ∀ v : Int, SX (fun u => decide (u = v)) af' = SX (fun u => decide (u = v)) af + m * (bI (decide (at_ = v)) - bI (decide (e = v)))
 un : ∀ w ∈ ord, w ≠ s → ord.idxOf w ≤ ord.idxOf at_ → roomP (psOf af') (byN bs w) = roomP (psOf af) (byN bs w)
 mem : at_ ∈ ord
section
variable {t : Traffic} {af af' : List (Arc × Int)} {N : Nat} {s e m at_ n : Int} {bs ord : List Int} {fs : List (List Int)}
/-! ### The pipes that leave a node -/
end

end Go.Proofs.Ytigdmkhdmbbfiaa
