/-
  No cell of these rows narrows 'for every input' (looked for: loops, veiled, ifaces, maps, wideKeys, modest, calm, conditions, laid).
  DERIVED. THE GIVEN ROWS OF THIS SEAT. 10 by the template 'for every input the law returns true; each argument reads behind the call as it read before'; 0 by the template 'total and deterministic' (their statements: YtigdmkhdmbbfiaaTotals.lean).
  GIVEN WITH THE SEED: the statements are not yours to turn. If you find one false, say at which input.
  Laid BY PROGRAM, IN A SANDBOX (cutbox-rows.mjs): the forced cells as the released guide's own fill.sh prints them over the translation e88a5fd50ba11fda… (all of the seat's roots in one cut). By AI agents, Wed Nov 11 2026. No macro, syntax, notation, axiom, sorry.
-/
import Derived.Test.YtigdmkhdmbbfiaaChecked
import GoSem.Claim
import GoSem.ClaimJoined
import GoSem.ClaimMapViews
import Derived.JoinedTies
import Derived.KernelRfl
namespace Go.Proofs.Ytigdmkhdmbbfiaa
/- THE CELL 'sum', in the pinned program and in every row, IS THE sha256 OF THE DUMP (.gsa) THAT YtigdmkhdmbbfiaaProg.lean LOADS. Nothing in Lean hashes anything: it is a label: what it is worth is what the hold of that sum in a sandbox is worth. -/
noncomputable def Try.pinned : Pinned := { name := "ytigdmkhdmbbfiaa", sum := "e88a5fd50ba11fda964aefc8c3aa9669dd096557a4f7ef1b87873e5fdcda6b98", checked := Try.checked }
namespace Rows
def none {H : Type} : Left H := { results := [], args := [] }

/-- 'putloglaw08.YardLeastCuts': WHATEVER THE INPUT: true; the input reads as it did. -/
def yardLeastCutsSpec : ChangeSpec := { name := "yardLeastCuts", fn := fun _ => fun
  | [d] => { results := [.lit (.bool true)], args := [d] }
  | _ => none }
def yardLeastCutsRow : OpenClaim := { program := "ytigdmkhdmbbfiaa", sum := "e88a5fd50ba11fda964aefc8c3aa9669dd096557a4f7ef1b87873e5fdcda6b98", func := "putlog/putloglaw08.YardLeastCuts", spec := "yardLeastCuts", inPlace := ["internal/bytealg.abigen_runtime_cmpstring"], unfollowed := true, recurses := true, plainKeys := false, apart := false }
def YardLeastCutsSaid : Prop := yardLeastCutsRow.holds Try.pinned (OpenSpec.ofChange yardLeastCutsSpec)

/-- ITS FALSE NEIGHBOUR: 'it returns false'. Refute it at one input. -/
def yardLeastCutsWrong : ChangeSpec := { name := "yardLeastCuts", fn := fun _ => fun
  | [d] => { results := [.lit (.bool false)], args := [d] }
  | _ => none }
def YardLeastCutsWrongFalsely : Prop := yardLeastCutsRow.holds Try.pinned (OpenSpec.ofChange yardLeastCutsWrong)

/-- 'putloglaw08.YardStocks': WHATEVER THE INPUT: true; the input reads as it did. -/
def yardStocksSpec : ChangeSpec := { name := "yardStocks", fn := fun _ => fun
  | [d1, d2, d3] => { results := [.lit (.bool true)], args := [d1, d2, d3] }
  | _ => none }
def yardStocksRow : OpenClaim := { program := "ytigdmkhdmbbfiaa", sum := "e88a5fd50ba11fda964aefc8c3aa9669dd096557a4f7ef1b87873e5fdcda6b98", func := "putlog/putloglaw08.YardStocks", spec := "yardStocks", inPlace := ["internal/bytealg.abigen_runtime_cmpstring"], unfollowed := true, recurses := true, plainKeys := false, apart := false }
def YardStocksSaid : Prop := yardStocksRow.holds Try.pinned (OpenSpec.ofChange yardStocksSpec)

/-- ITS FALSE NEIGHBOUR: 'it returns false'. Refute it at one input. -/
def yardStocksWrong : ChangeSpec := { name := "yardStocks", fn := fun _ => fun
  | [d1, d2, d3] => { results := [.lit (.bool false)], args := [d1, d2, d3] }
  | _ => none }
def YardStocksWrongFalsely : Prop := yardStocksRow.holds Try.pinned (OpenSpec.ofChange yardStocksWrong)

/-- 'putloglaw08.YardLoads': WHATEVER THE INPUT: true; the input reads as it did. -/
def yardLoadsSpec : ChangeSpec := { name := "yardLoads", fn := fun _ => fun
  | [d1, d2, d3] => { results := [.lit (.bool true)], args := [d1, d2, d3] }
  | _ => none }
def yardLoadsRow : OpenClaim := { program := "ytigdmkhdmbbfiaa", sum := "e88a5fd50ba11fda964aefc8c3aa9669dd096557a4f7ef1b87873e5fdcda6b98", func := "putlog/putloglaw08.YardLoads", spec := "yardLoads", inPlace := ["internal/bytealg.abigen_runtime_cmpstring"], unfollowed := true, recurses := true, plainKeys := false, apart := false }
def YardLoadsSaid : Prop := yardLoadsRow.holds Try.pinned (OpenSpec.ofChange yardLoadsSpec)

/-- ITS FALSE NEIGHBOUR: 'it returns false'. Refute it at one input. -/
def yardLoadsWrong : ChangeSpec := { name := "yardLoads", fn := fun _ => fun
  | [d1, d2, d3] => { results := [.lit (.bool false)], args := [d1, d2, d3] }
  | _ => none }
def YardLoadsWrongFalsely : Prop := yardLoadsRow.holds Try.pinned (OpenSpec.ofChange yardLoadsWrong)

/-- 'putloglaw08.YardCuts': WHATEVER THE INPUT: true; the input reads as it did. -/
def yardCutsSpec : ChangeSpec := { name := "yardCuts", fn := fun _ => fun
  | [d1, d2] => { results := [.lit (.bool true)], args := [d1, d2] }
  | _ => none }
def yardCutsRow : OpenClaim := { program := "ytigdmkhdmbbfiaa", sum := "e88a5fd50ba11fda964aefc8c3aa9669dd096557a4f7ef1b87873e5fdcda6b98", func := "putlog/putloglaw08.YardCuts", spec := "yardCuts", inPlace := ["internal/bytealg.abigen_runtime_cmpstring"], unfollowed := true, recurses := true, plainKeys := false, apart := false }
def YardCutsSaid : Prop := yardCutsRow.holds Try.pinned (OpenSpec.ofChange yardCutsSpec)

/-- ITS FALSE NEIGHBOUR: 'it returns false'. Refute it at one input. -/
def yardCutsWrong : ChangeSpec := { name := "yardCuts", fn := fun _ => fun
  | [d1, d2] => { results := [.lit (.bool false)], args := [d1, d2] }
  | _ => none }
def YardCutsWrongFalsely : Prop := yardCutsRow.holds Try.pinned (OpenSpec.ofChange yardCutsWrong)

/-- 'putloglaw08.YardPicks': WHATEVER THE INPUT: true; the input reads as it did. -/
def yardPicksSpec : ChangeSpec := { name := "yardPicks", fn := fun _ => fun
  | [d1, d2] => { results := [.lit (.bool true)], args := [d1, d2] }
  | _ => none }
def yardPicksRow : OpenClaim := { program := "ytigdmkhdmbbfiaa", sum := "e88a5fd50ba11fda964aefc8c3aa9669dd096557a4f7ef1b87873e5fdcda6b98", func := "putlog/putloglaw08.YardPicks", spec := "yardPicks", inPlace := ["internal/bytealg.abigen_runtime_cmpstring"], unfollowed := true, recurses := true, plainKeys := false, apart := false }
def YardPicksSaid : Prop := yardPicksRow.holds Try.pinned (OpenSpec.ofChange yardPicksSpec)

/-- ITS FALSE NEIGHBOUR: 'it returns false'. Refute it at one input. -/
def yardPicksWrong : ChangeSpec := { name := "yardPicks", fn := fun _ => fun
  | [d1, d2] => { results := [.lit (.bool false)], args := [d1, d2] }
  | _ => none }
def YardPicksWrongFalsely : Prop := yardPicksRow.holds Try.pinned (OpenSpec.ofChange yardPicksWrong)

/-- 'putloglaw08.YardTrips': WHATEVER THE INPUT: true; the input reads as it did. -/
def yardTripsSpec : ChangeSpec := { name := "yardTrips", fn := fun _ => fun
  | [d1, d2] => { results := [.lit (.bool true)], args := [d1, d2] }
  | _ => none }
def yardTripsRow : OpenClaim := { program := "ytigdmkhdmbbfiaa", sum := "e88a5fd50ba11fda964aefc8c3aa9669dd096557a4f7ef1b87873e5fdcda6b98", func := "putlog/putloglaw08.YardTrips", spec := "yardTrips", inPlace := ["internal/bytealg.abigen_runtime_cmpstring"], unfollowed := true, recurses := true, plainKeys := false, apart := false }
def YardTripsSaid : Prop := yardTripsRow.holds Try.pinned (OpenSpec.ofChange yardTripsSpec)

/-- ITS FALSE NEIGHBOUR: 'it returns false'. Refute it at one input. -/
def yardTripsWrong : ChangeSpec := { name := "yardTrips", fn := fun _ => fun
  | [d1, d2] => { results := [.lit (.bool false)], args := [d1, d2] }
  | _ => none }
def YardTripsWrongFalsely : Prop := yardTripsRow.holds Try.pinned (OpenSpec.ofChange yardTripsWrong)

/-- 'putloglaw08.YardMasses': WHATEVER THE INPUT: true; the input reads as it did. -/
def yardMassesSpec : ChangeSpec := { name := "yardMasses", fn := fun _ => fun
  | [d1, d2, d3] => { results := [.lit (.bool true)], args := [d1, d2, d3] }
  | _ => none }
def yardMassesRow : OpenClaim := { program := "ytigdmkhdmbbfiaa", sum := "e88a5fd50ba11fda964aefc8c3aa9669dd096557a4f7ef1b87873e5fdcda6b98", func := "putlog/putloglaw08.YardMasses", spec := "yardMasses", inPlace := ["internal/bytealg.abigen_runtime_cmpstring"], unfollowed := true, recurses := true, plainKeys := false, apart := false }
def YardMassesSaid : Prop := yardMassesRow.holds Try.pinned (OpenSpec.ofChange yardMassesSpec)

/-- ITS FALSE NEIGHBOUR: 'it returns false'. Refute it at one input. -/
def yardMassesWrong : ChangeSpec := { name := "yardMasses", fn := fun _ => fun
  | [d1, d2, d3] => { results := [.lit (.bool false)], args := [d1, d2, d3] }
  | _ => none }
def YardMassesWrongFalsely : Prop := yardMassesRow.holds Try.pinned (OpenSpec.ofChange yardMassesWrong)

/-- 'putloglaw08.YardBundled': WHATEVER THE INPUT: true; the input reads as it did. -/
def yardBundledSpec : ChangeSpec := { name := "yardBundled", fn := fun _ => fun
  | [d1, d2, d3] => { results := [.lit (.bool true)], args := [d1, d2, d3] }
  | _ => none }
def yardBundledRow : OpenClaim := { program := "ytigdmkhdmbbfiaa", sum := "e88a5fd50ba11fda964aefc8c3aa9669dd096557a4f7ef1b87873e5fdcda6b98", func := "putlog/putloglaw08.YardBundled", spec := "yardBundled", inPlace := ["internal/bytealg.abigen_runtime_cmpstring"], unfollowed := true, recurses := true, plainKeys := false, apart := false }
def YardBundledSaid : Prop := yardBundledRow.holds Try.pinned (OpenSpec.ofChange yardBundledSpec)

/-- ITS FALSE NEIGHBOUR: 'it returns false'. Refute it at one input. -/
def yardBundledWrong : ChangeSpec := { name := "yardBundled", fn := fun _ => fun
  | [d1, d2, d3] => { results := [.lit (.bool false)], args := [d1, d2, d3] }
  | _ => none }
def YardBundledWrongFalsely : Prop := yardBundledRow.holds Try.pinned (OpenSpec.ofChange yardBundledWrong)

/-- 'putloglaw08.YardMeets': WHATEVER THE INPUT: true; the input reads as it did. -/
def yardMeetsSpec : ChangeSpec := { name := "yardMeets", fn := fun _ => fun
  | [d] => { results := [.lit (.bool true)], args := [d] }
  | _ => none }
def yardMeetsRow : OpenClaim := { program := "ytigdmkhdmbbfiaa", sum := "e88a5fd50ba11fda964aefc8c3aa9669dd096557a4f7ef1b87873e5fdcda6b98", func := "putlog/putloglaw08.YardMeets", spec := "yardMeets", inPlace := ["internal/bytealg.abigen_runtime_cmpstring"], unfollowed := true, recurses := true, plainKeys := false, apart := false }
def YardMeetsSaid : Prop := yardMeetsRow.holds Try.pinned (OpenSpec.ofChange yardMeetsSpec)

/-- ITS FALSE NEIGHBOUR: 'it returns false'. Refute it at one input. -/
def yardMeetsWrong : ChangeSpec := { name := "yardMeets", fn := fun _ => fun
  | [d] => { results := [.lit (.bool false)], args := [d] }
  | _ => none }
def YardMeetsWrongFalsely : Prop := yardMeetsRow.holds Try.pinned (OpenSpec.ofChange yardMeetsWrong)

/-- 'putloglaw08.YardLoading': WHATEVER THE INPUT: true; the input reads as it did. -/
def yardLoadingSpec : ChangeSpec := { name := "yardLoading", fn := fun _ => fun
  | [d1, d2] => { results := [.lit (.bool true)], args := [d1, d2] }
  | _ => none }
def yardLoadingRow : OpenClaim := { program := "ytigdmkhdmbbfiaa", sum := "e88a5fd50ba11fda964aefc8c3aa9669dd096557a4f7ef1b87873e5fdcda6b98", func := "putlog/putloglaw08.YardLoading", spec := "yardLoading", inPlace := ["internal/bytealg.abigen_runtime_cmpstring"], unfollowed := true, recurses := true, plainKeys := false, apart := false }
def YardLoadingSaid : Prop := yardLoadingRow.holds Try.pinned (OpenSpec.ofChange yardLoadingSpec)

/-- ITS FALSE NEIGHBOUR: 'it returns false'. Refute it at one input. -/
def yardLoadingWrong : ChangeSpec := { name := "yardLoading", fn := fun _ => fun
  | [d1, d2] => { results := [.lit (.bool false)], args := [d1, d2] }
  | _ => none }
def YardLoadingWrongFalsely : Prop := yardLoadingRow.holds Try.pinned (OpenSpec.ofChange yardLoadingWrong)

/- THE SECOND FORM. 'bulk': how many values and letters a reading holds, each counted each time it is reached (what is shared counts as often as it is met; a slice's spare places count too). A statement '..UptoSaid' is the law's where the arguments, and the package variables that the reading takes, are together of bulk at most 1048576: NARROWER than '..Said'. Prove '..Said' where nothing that the law and all that it calls make is longer than what came in: it says more and counts as full. Else prove '..UptoSaid'. A law counts once. -/
mutual
def uptoBulk {H : Type} : DataW H → Nat
  | .lit (.string bytes) => bytes.length + 1
  | .lit _ => 1
  | .nil => 1
  | .ptr d => uptoBulk d + 1
  | .slice elems spare => uptoBulkAll elems + uptoBulkAll spare + 1
  | .agg parts => uptoBulkAll parts + 1
  | .iface _ d => uptoBulk d + 1
  | .map entries => uptoBulkEntries entries + 1
  | .held _ => 1
def uptoBulkAll {H : Type} : List (DataW H) → Nat
  | [] => 0
  | d :: r => uptoBulk d + uptoBulkAll r
def uptoBulkEntries {H : Type} : List (Lit × DataW H) → Nat
  | [] => 0
  | x :: r => uptoBulkEntry x + uptoBulkEntries r
def uptoBulkEntry {H : Type} : Lit × DataW H → Nat
  | (.string bytes, d) => bytes.length + uptoBulk d + 1
  | (_, d) => uptoBulk d + 1
 end
def uptoSmall : (H : Type) → List (DataW H) → Bool := fun _ ds => decide (uptoBulkAll ds ≤ 1048576)
def OpenSpec.upto (s : _root_.Go.ChangeSpec) : _root_.Go.OpenSpec := { _root_.Go.OpenSpec.ofChange s with cond := some uptoSmall }

/-- 'putloglaw08.YardLeastCuts', WHERE WHAT IT READS IS OF BULK AT MOST 1048576: true; the input reads as it did. -/
def yardLeastCutsUptoRow : OpenClaim := { program := "ytigdmkhdmbbfiaa", sum := "e88a5fd50ba11fda964aefc8c3aa9669dd096557a4f7ef1b87873e5fdcda6b98", func := "putlog/putloglaw08.YardLeastCuts", spec := "yardLeastCuts", inPlace := ["internal/bytealg.abigen_runtime_cmpstring"], unfollowed := true, recurses := true, plainKeys := false, apart := false, narrowed := true }
def YardLeastCutsUptoSaid : Prop := yardLeastCutsUptoRow.holds Try.pinned (OpenSpec.upto yardLeastCutsSpec)

/-- 'putloglaw08.YardStocks', WHERE WHAT IT READS IS OF BULK AT MOST 1048576: true; the input reads as it did. -/
def yardStocksUptoRow : OpenClaim := { program := "ytigdmkhdmbbfiaa", sum := "e88a5fd50ba11fda964aefc8c3aa9669dd096557a4f7ef1b87873e5fdcda6b98", func := "putlog/putloglaw08.YardStocks", spec := "yardStocks", inPlace := ["internal/bytealg.abigen_runtime_cmpstring"], unfollowed := true, recurses := true, plainKeys := false, apart := false, narrowed := true }
def YardStocksUptoSaid : Prop := yardStocksUptoRow.holds Try.pinned (OpenSpec.upto yardStocksSpec)

/-- 'putloglaw08.YardLoads', WHERE WHAT IT READS IS OF BULK AT MOST 1048576: true; the input reads as it did. -/
def yardLoadsUptoRow : OpenClaim := { program := "ytigdmkhdmbbfiaa", sum := "e88a5fd50ba11fda964aefc8c3aa9669dd096557a4f7ef1b87873e5fdcda6b98", func := "putlog/putloglaw08.YardLoads", spec := "yardLoads", inPlace := ["internal/bytealg.abigen_runtime_cmpstring"], unfollowed := true, recurses := true, plainKeys := false, apart := false, narrowed := true }
def YardLoadsUptoSaid : Prop := yardLoadsUptoRow.holds Try.pinned (OpenSpec.upto yardLoadsSpec)

/-- 'putloglaw08.YardCuts', WHERE WHAT IT READS IS OF BULK AT MOST 1048576: true; the input reads as it did. -/
def yardCutsUptoRow : OpenClaim := { program := "ytigdmkhdmbbfiaa", sum := "e88a5fd50ba11fda964aefc8c3aa9669dd096557a4f7ef1b87873e5fdcda6b98", func := "putlog/putloglaw08.YardCuts", spec := "yardCuts", inPlace := ["internal/bytealg.abigen_runtime_cmpstring"], unfollowed := true, recurses := true, plainKeys := false, apart := false, narrowed := true }
def YardCutsUptoSaid : Prop := yardCutsUptoRow.holds Try.pinned (OpenSpec.upto yardCutsSpec)

/-- 'putloglaw08.YardPicks', WHERE WHAT IT READS IS OF BULK AT MOST 1048576: true; the input reads as it did. -/
def yardPicksUptoRow : OpenClaim := { program := "ytigdmkhdmbbfiaa", sum := "e88a5fd50ba11fda964aefc8c3aa9669dd096557a4f7ef1b87873e5fdcda6b98", func := "putlog/putloglaw08.YardPicks", spec := "yardPicks", inPlace := ["internal/bytealg.abigen_runtime_cmpstring"], unfollowed := true, recurses := true, plainKeys := false, apart := false, narrowed := true }
def YardPicksUptoSaid : Prop := yardPicksUptoRow.holds Try.pinned (OpenSpec.upto yardPicksSpec)

/-- 'putloglaw08.YardTrips', WHERE WHAT IT READS IS OF BULK AT MOST 1048576: true; the input reads as it did. -/
def yardTripsUptoRow : OpenClaim := { program := "ytigdmkhdmbbfiaa", sum := "e88a5fd50ba11fda964aefc8c3aa9669dd096557a4f7ef1b87873e5fdcda6b98", func := "putlog/putloglaw08.YardTrips", spec := "yardTrips", inPlace := ["internal/bytealg.abigen_runtime_cmpstring"], unfollowed := true, recurses := true, plainKeys := false, apart := false, narrowed := true }
def YardTripsUptoSaid : Prop := yardTripsUptoRow.holds Try.pinned (OpenSpec.upto yardTripsSpec)

/-- 'putloglaw08.YardMasses', WHERE WHAT IT READS IS OF BULK AT MOST 1048576: true; the input reads as it did. -/
def yardMassesUptoRow : OpenClaim := { program := "ytigdmkhdmbbfiaa", sum := "e88a5fd50ba11fda964aefc8c3aa9669dd096557a4f7ef1b87873e5fdcda6b98", func := "putlog/putloglaw08.YardMasses", spec := "yardMasses", inPlace := ["internal/bytealg.abigen_runtime_cmpstring"], unfollowed := true, recurses := true, plainKeys := false, apart := false, narrowed := true }
def YardMassesUptoSaid : Prop := yardMassesUptoRow.holds Try.pinned (OpenSpec.upto yardMassesSpec)

/-- 'putloglaw08.YardBundled', WHERE WHAT IT READS IS OF BULK AT MOST 1048576: true; the input reads as it did. -/
def yardBundledUptoRow : OpenClaim := { program := "ytigdmkhdmbbfiaa", sum := "e88a5fd50ba11fda964aefc8c3aa9669dd096557a4f7ef1b87873e5fdcda6b98", func := "putlog/putloglaw08.YardBundled", spec := "yardBundled", inPlace := ["internal/bytealg.abigen_runtime_cmpstring"], unfollowed := true, recurses := true, plainKeys := false, apart := false, narrowed := true }
def YardBundledUptoSaid : Prop := yardBundledUptoRow.holds Try.pinned (OpenSpec.upto yardBundledSpec)

/-- 'putloglaw08.YardMeets', WHERE WHAT IT READS IS OF BULK AT MOST 1048576: true; the input reads as it did. -/
def yardMeetsUptoRow : OpenClaim := { program := "ytigdmkhdmbbfiaa", sum := "e88a5fd50ba11fda964aefc8c3aa9669dd096557a4f7ef1b87873e5fdcda6b98", func := "putlog/putloglaw08.YardMeets", spec := "yardMeets", inPlace := ["internal/bytealg.abigen_runtime_cmpstring"], unfollowed := true, recurses := true, plainKeys := false, apart := false, narrowed := true }
def YardMeetsUptoSaid : Prop := yardMeetsUptoRow.holds Try.pinned (OpenSpec.upto yardMeetsSpec)

/-- 'putloglaw08.YardLoading', WHERE WHAT IT READS IS OF BULK AT MOST 1048576: true; the input reads as it did. -/
def yardLoadingUptoRow : OpenClaim := { program := "ytigdmkhdmbbfiaa", sum := "e88a5fd50ba11fda964aefc8c3aa9669dd096557a4f7ef1b87873e5fdcda6b98", func := "putlog/putloglaw08.YardLoading", spec := "yardLoading", inPlace := ["internal/bytealg.abigen_runtime_cmpstring"], unfollowed := true, recurses := true, plainKeys := false, apart := false, narrowed := true }
def YardLoadingUptoSaid : Prop := yardLoadingUptoRow.holds Try.pinned (OpenSpec.upto yardLoadingSpec)

end Rows
end Go.Proofs.Ytigdmkhdmbbfiaa
