/- The records of this program as they lie in cells. No conditions. -/
import Derived.Test.YtigdmkhdmbbfiaaData
import Derived.Test.YtigdmkhdmbbfiaaPvGh
namespace Go.Proofs.Ytigdmkhdmbbfiaa
open Go Go.Pv
set_option maxRecDepth 100000
def cl (l : List Int) : List PV := [.lit true 1 (l.map ci)]
abbrev In64 (z : Int) : Prop := -9223372036854775808 ≤ z ∧ z ≤ 9223372036854775807
structure At where
 a0 : Int
 a1 : Int
 deriving Inhabited, DecidableEq
structure At.ok (x : At) : Prop where
 a0 : In64 x.a0
 a1 : In64 x.a1
structure Traffic where
 places : Int
 days : Int
 routes : List Route
 supplies : List Supply
 needs : List Supply
 deriving Inhabited, DecidableEq
def Traffic.enc (x : Traffic) : List PV := [.int x.places, .int x.days, .lit true 4 (x.routes.map Route.enc), .lit true 3 (x.supplies.map Supply.enc), .lit true 3 (x.needs.map Supply.enc)]
structure Traffic.ok (x : Traffic) : Prop where
 places : In64 x.places
 days : In64 x.days
 routes : x.routes.length ≤ maxLen ∧ ∀ z ∈ x.routes, z.ok
 supplies : x.supplies.length ≤ maxLen ∧ ∀ z ∈ x.supplies, z.ok
 needs : x.needs.length ≤ maxLen ∧ ∀ z ∈ x.needs, z.ok
end Go.Proofs.Ytigdmkhdmbbfiaa
