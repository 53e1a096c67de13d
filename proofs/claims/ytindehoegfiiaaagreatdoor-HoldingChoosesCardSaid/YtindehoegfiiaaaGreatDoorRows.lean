/-
  NARROWER THAN 'FOR EVERY INPUT', by the rows' own cells (each row's printed sentence says how): HoldingGrids: laid · HoldingChooses: laid · HoldingDemands: laid · HoldingGaps: laid · HoldingSelect: laid · HoldingEssential: laid · HoldingSums: laid · HoldingGround: laid · HoldingShares: laid · HoldingSoles: laid · HoldingJacks: laid.
  DERIVED. THE GIVEN ROWS OF THIS SEAT. 11 by the template 'for every input the law returns true; each argument reads behind the call as it read before'; 0 by the template 'total and deterministic' (their statements: YtindehoegfiiaaaGreatDoorTotals.lean).
  GIVEN WITH THE SEED: the statements are not yours to turn. If you find one false, say at which input.
  Laid BY PROGRAM, IN A SANDBOX (cutbox-rows.mjs): the forced cells as the released guide's own fill.sh prints them over the translation 1c8a174ed50a4ab0… (all of the seat's roots in one cut). By AI agents, Wed Nov 11 2026. No macro, syntax, notation, axiom, sorry.
-/
import Derived.Test.YtindehoegfiiaaaGreatDoorChecked
import GoSem.Claim
import GoSem.ClaimJoined
import GoSem.ClaimMapViews
import Derived.JoinedTies
import Derived.KernelRfl
namespace Go.Proofs.YtindehoegfiiaaaGreatDoor
/- THE CELL 'sum', in the pinned program and in every row, IS THE sha256 OF THE DUMP (.gsa) THAT YtindehoegfiiaaaGreatDoorProg.lean LOADS. Nothing in Lean hashes anything: it is a label: what it is worth is what the hold of that sum in a sandbox is worth. -/
noncomputable def Tryz.pinned : Pinned := { name := "ytindehoegfiiaaagreatdoor", sum := "1c8a174ed50a4ab0fcd8155f488335f0a1d4fcdf1753c01cbfcebdbe6c669a40", checked := Tryz.checked }
namespace Rows
def none {H : Type} : Left H := { results := [], args := [] }

/- WHAT THE LISTED PACKAGE-LEVEL VARIABLES READ AS WHEN THE CALL BEGINS. Each datum BY PROGRAM (the guide's laid-datum.mjs) off the statement by which the dump's own 'gosem.cut.vars' lays the variable. In a bare row this is a premise. The card (YtindehoegfiiaaaGreatDoorCards.lean) ties it to the program's text. -/
def laid_math_bits_deBruijn32tab {H : Type} : DataW H := .agg [.lit (.int .u8 0), .lit (.int .u8 1), .lit (.int .u8 28), .lit (.int .u8 2), .lit (.int .u8 29), .lit (.int .u8 14), .lit (.int .u8 24), .lit (.int .u8 3), .lit (.int .u8 30), .lit (.int .u8 22), .lit (.int .u8 20), .lit (.int .u8 15), .lit (.int .u8 25), .lit (.int .u8 17), .lit (.int .u8 4), .lit (.int .u8 8), .lit (.int .u8 31), .lit (.int .u8 27), .lit (.int .u8 13), .lit (.int .u8 23), .lit (.int .u8 21), .lit (.int .u8 19), .lit (.int .u8 16), .lit (.int .u8 7), .lit (.int .u8 26), .lit (.int .u8 12), .lit (.int .u8 18), .lit (.int .u8 6), .lit (.int .u8 11), .lit (.int .u8 5), .lit (.int .u8 10), .lit (.int .u8 9)]
def laid_math_bits_deBruijn64tab {H : Type} : DataW H := .agg [.lit (.int .u8 0), .lit (.int .u8 1), .lit (.int .u8 56), .lit (.int .u8 2), .lit (.int .u8 57), .lit (.int .u8 49), .lit (.int .u8 28), .lit (.int .u8 3), .lit (.int .u8 61), .lit (.int .u8 58), .lit (.int .u8 42), .lit (.int .u8 50), .lit (.int .u8 38), .lit (.int .u8 29), .lit (.int .u8 17), .lit (.int .u8 4), .lit (.int .u8 62), .lit (.int .u8 47), .lit (.int .u8 59), .lit (.int .u8 36), .lit (.int .u8 45), .lit (.int .u8 43), .lit (.int .u8 51), .lit (.int .u8 22), .lit (.int .u8 53), .lit (.int .u8 39), .lit (.int .u8 33), .lit (.int .u8 30), .lit (.int .u8 24), .lit (.int .u8 18), .lit (.int .u8 12), .lit (.int .u8 5), .lit (.int .u8 63), .lit (.int .u8 55), .lit (.int .u8 48), .lit (.int .u8 27), .lit (.int .u8 60), .lit (.int .u8 41), .lit (.int .u8 37), .lit (.int .u8 16), .lit (.int .u8 46), .lit (.int .u8 35), .lit (.int .u8 44), .lit (.int .u8 21), .lit (.int .u8 52), .lit (.int .u8 32), .lit (.int .u8 23), .lit (.int .u8 11), .lit (.int .u8 54), .lit (.int .u8 26), .lit (.int .u8 40), .lit (.int .u8 15), .lit (.int .u8 34), .lit (.int .u8 20), .lit (.int .u8 31), .lit (.int .u8 10), .lit (.int .u8 25), .lit (.int .u8 14), .lit (.int .u8 19), .lit (.int .u8 9), .lit (.int .u8 13), .lit (.int .u8 8), .lit (.int .u8 7), .lit (.int .u8 6)]
def laid_internal_strconv_uint64pow10 {H : Type} : DataW H := .agg [.lit (.int .u64 1), .lit (.int .u64 10), .lit (.int .u64 100), .lit (.int .u64 1000), .lit (.int .u64 10000), .lit (.int .u64 100000), .lit (.int .u64 1000000), .lit (.int .u64 10000000), .lit (.int .u64 100000000), .lit (.int .u64 1000000000), .lit (.int .u64 10000000000), .lit (.int .u64 100000000000), .lit (.int .u64 1000000000000), .lit (.int .u64 10000000000000), .lit (.int .u64 100000000000000), .lit (.int .u64 1000000000000000), .lit (.int .u64 10000000000000000), .lit (.int .u64 100000000000000000), .lit (.int .u64 1000000000000000000), .lit (.int .u64 10000000000000000000)]

/-- 'putloglaw06.HoldingGrids': WHATEVER THE INPUT: true; the input reads as it did. -/
def holdingGridsSpec : ChangeSpec := { name := "holdingGrids", fn := fun _ => fun
  | [d1, d2] => { results := [.lit (.bool true)], args := [d1, d2] }
  | _ => none }
def holdingGridsRow : OpenClaim := { program := "ytindehoegfiiaaagreatdoor", sum := "1c8a174ed50a4ab0fcd8155f488335f0a1d4fcdf1753c01cbfcebdbe6c669a40", func := "putlog/putloglaw06.HoldingGrids", spec := "holdingGrids", inPlace := ["internal/abi.NoEscape", "internal/bytealg.MakeNoZero"], unfollowed := true, recurses := true, named := ["math/bits.deBruijn64tab", "internal/strconv.uint64pow10", "math/bits.deBruijn32tab"], apart := false, laid := [("math/bits.deBruijn32tab", laid_math_bits_deBruijn32tab), ("math/bits.deBruijn64tab", laid_math_bits_deBruijn64tab), ("internal/strconv.uint64pow10", laid_internal_strconv_uint64pow10)] }
def HoldingGridsSaid : Prop := holdingGridsRow.holds Tryz.pinned (OpenSpec.ofChange holdingGridsSpec)

/-- ITS FALSE NEIGHBOUR: 'it returns false'. Refute it at one input. -/
def holdingGridsWrong : ChangeSpec := { name := "holdingGrids", fn := fun _ => fun
  | [d1, d2] => { results := [.lit (.bool false)], args := [d1, d2] }
  | _ => none }
def HoldingGridsWrongFalsely : Prop := holdingGridsRow.holds Tryz.pinned (OpenSpec.ofChange holdingGridsWrong)

/-- 'putloglaw06.HoldingChooses': WHATEVER THE INPUT: true; the input reads as it did. -/
def holdingChoosesSpec : ChangeSpec := { name := "holdingChooses", fn := fun _ => fun
  | [d1, d2, d3] => { results := [.lit (.bool true)], args := [d1, d2, d3] }
  | _ => none }
def holdingChoosesRow : OpenClaim := { program := "ytindehoegfiiaaagreatdoor", sum := "1c8a174ed50a4ab0fcd8155f488335f0a1d4fcdf1753c01cbfcebdbe6c669a40", func := "putlog/putloglaw06.HoldingChooses", spec := "holdingChooses", inPlace := ["internal/abi.NoEscape", "internal/bytealg.MakeNoZero"], unfollowed := true, recurses := true, named := ["math/bits.deBruijn64tab", "internal/strconv.uint64pow10", "math/bits.deBruijn32tab"], apart := false, laid := [("math/bits.deBruijn32tab", laid_math_bits_deBruijn32tab), ("math/bits.deBruijn64tab", laid_math_bits_deBruijn64tab), ("internal/strconv.uint64pow10", laid_internal_strconv_uint64pow10)] }
def HoldingChoosesSaid : Prop := holdingChoosesRow.holds Tryz.pinned (OpenSpec.ofChange holdingChoosesSpec)

/-- ITS FALSE NEIGHBOUR: 'it returns false'. Refute it at one input. -/
def holdingChoosesWrong : ChangeSpec := { name := "holdingChooses", fn := fun _ => fun
  | [d1, d2, d3] => { results := [.lit (.bool false)], args := [d1, d2, d3] }
  | _ => none }
def HoldingChoosesWrongFalsely : Prop := holdingChoosesRow.holds Tryz.pinned (OpenSpec.ofChange holdingChoosesWrong)

/-- 'putloglaw06.HoldingDemands': WHATEVER THE INPUT: true; the input reads as it did. -/
def holdingDemandsSpec : ChangeSpec := { name := "holdingDemands", fn := fun _ => fun
  | [d1, d2, d3] => { results := [.lit (.bool true)], args := [d1, d2, d3] }
  | _ => none }
def holdingDemandsRow : OpenClaim := { program := "ytindehoegfiiaaagreatdoor", sum := "1c8a174ed50a4ab0fcd8155f488335f0a1d4fcdf1753c01cbfcebdbe6c669a40", func := "putlog/putloglaw06.HoldingDemands", spec := "holdingDemands", inPlace := ["internal/abi.NoEscape", "internal/bytealg.MakeNoZero"], unfollowed := true, recurses := true, named := ["math/bits.deBruijn64tab", "internal/strconv.uint64pow10", "math/bits.deBruijn32tab"], apart := false, laid := [("math/bits.deBruijn32tab", laid_math_bits_deBruijn32tab), ("math/bits.deBruijn64tab", laid_math_bits_deBruijn64tab), ("internal/strconv.uint64pow10", laid_internal_strconv_uint64pow10)] }
def HoldingDemandsSaid : Prop := holdingDemandsRow.holds Tryz.pinned (OpenSpec.ofChange holdingDemandsSpec)

/-- ITS FALSE NEIGHBOUR: 'it returns false'. Refute it at one input. -/
def holdingDemandsWrong : ChangeSpec := { name := "holdingDemands", fn := fun _ => fun
  | [d1, d2, d3] => { results := [.lit (.bool false)], args := [d1, d2, d3] }
  | _ => none }
def HoldingDemandsWrongFalsely : Prop := holdingDemandsRow.holds Tryz.pinned (OpenSpec.ofChange holdingDemandsWrong)

/-- 'putloglaw06.HoldingGaps': WHATEVER THE INPUT: true; the input reads as it did. -/
def holdingGapsSpec : ChangeSpec := { name := "holdingGaps", fn := fun _ => fun
  | [d1, d2, d3] => { results := [.lit (.bool true)], args := [d1, d2, d3] }
  | _ => none }
def holdingGapsRow : OpenClaim := { program := "ytindehoegfiiaaagreatdoor", sum := "1c8a174ed50a4ab0fcd8155f488335f0a1d4fcdf1753c01cbfcebdbe6c669a40", func := "putlog/putloglaw06.HoldingGaps", spec := "holdingGaps", inPlace := ["internal/abi.NoEscape", "internal/bytealg.MakeNoZero"], unfollowed := true, recurses := true, named := ["math/bits.deBruijn64tab", "internal/strconv.uint64pow10", "math/bits.deBruijn32tab"], apart := false, laid := [("math/bits.deBruijn32tab", laid_math_bits_deBruijn32tab), ("math/bits.deBruijn64tab", laid_math_bits_deBruijn64tab), ("internal/strconv.uint64pow10", laid_internal_strconv_uint64pow10)] }
def HoldingGapsSaid : Prop := holdingGapsRow.holds Tryz.pinned (OpenSpec.ofChange holdingGapsSpec)

/-- ITS FALSE NEIGHBOUR: 'it returns false'. Refute it at one input. -/
def holdingGapsWrong : ChangeSpec := { name := "holdingGaps", fn := fun _ => fun
  | [d1, d2, d3] => { results := [.lit (.bool false)], args := [d1, d2, d3] }
  | _ => none }
def HoldingGapsWrongFalsely : Prop := holdingGapsRow.holds Tryz.pinned (OpenSpec.ofChange holdingGapsWrong)

/-- 'putloglaw06.HoldingSelect': WHATEVER THE INPUT: true; the input reads as it did. -/
def holdingSelectSpec : ChangeSpec := { name := "holdingSelect", fn := fun _ => fun
  | [d1, d2] => { results := [.lit (.bool true)], args := [d1, d2] }
  | _ => none }
def holdingSelectRow : OpenClaim := { program := "ytindehoegfiiaaagreatdoor", sum := "1c8a174ed50a4ab0fcd8155f488335f0a1d4fcdf1753c01cbfcebdbe6c669a40", func := "putlog/putloglaw06.HoldingSelect", spec := "holdingSelect", inPlace := ["internal/abi.NoEscape", "internal/bytealg.MakeNoZero"], unfollowed := true, recurses := true, named := ["math/bits.deBruijn64tab", "internal/strconv.uint64pow10", "math/bits.deBruijn32tab"], apart := false, laid := [("math/bits.deBruijn32tab", laid_math_bits_deBruijn32tab), ("math/bits.deBruijn64tab", laid_math_bits_deBruijn64tab), ("internal/strconv.uint64pow10", laid_internal_strconv_uint64pow10)] }
def HoldingSelectSaid : Prop := holdingSelectRow.holds Tryz.pinned (OpenSpec.ofChange holdingSelectSpec)

/-- ITS FALSE NEIGHBOUR: 'it returns false'. Refute it at one input. -/
def holdingSelectWrong : ChangeSpec := { name := "holdingSelect", fn := fun _ => fun
  | [d1, d2] => { results := [.lit (.bool false)], args := [d1, d2] }
  | _ => none }
def HoldingSelectWrongFalsely : Prop := holdingSelectRow.holds Tryz.pinned (OpenSpec.ofChange holdingSelectWrong)

/-- 'putloglaw06.HoldingEssential': WHATEVER THE INPUT: true; the input reads as it did. -/
def holdingEssentialSpec : ChangeSpec := { name := "holdingEssential", fn := fun _ => fun
  | [d] => { results := [.lit (.bool true)], args := [d] }
  | _ => none }
def holdingEssentialRow : OpenClaim := { program := "ytindehoegfiiaaagreatdoor", sum := "1c8a174ed50a4ab0fcd8155f488335f0a1d4fcdf1753c01cbfcebdbe6c669a40", func := "putlog/putloglaw06.HoldingEssential", spec := "holdingEssential", inPlace := ["internal/abi.NoEscape", "internal/bytealg.MakeNoZero"], unfollowed := true, recurses := true, named := ["math/bits.deBruijn64tab", "internal/strconv.uint64pow10", "math/bits.deBruijn32tab"], apart := false, laid := [("math/bits.deBruijn32tab", laid_math_bits_deBruijn32tab), ("math/bits.deBruijn64tab", laid_math_bits_deBruijn64tab), ("internal/strconv.uint64pow10", laid_internal_strconv_uint64pow10)] }
def HoldingEssentialSaid : Prop := holdingEssentialRow.holds Tryz.pinned (OpenSpec.ofChange holdingEssentialSpec)

/-- ITS FALSE NEIGHBOUR: 'it returns false'. Refute it at one input. -/
def holdingEssentialWrong : ChangeSpec := { name := "holdingEssential", fn := fun _ => fun
  | [d] => { results := [.lit (.bool false)], args := [d] }
  | _ => none }
def HoldingEssentialWrongFalsely : Prop := holdingEssentialRow.holds Tryz.pinned (OpenSpec.ofChange holdingEssentialWrong)

/-- 'putloglaw06.HoldingSums': WHATEVER THE INPUT: true; the input reads as it did. -/
def holdingSumsSpec : ChangeSpec := { name := "holdingSums", fn := fun _ => fun
  | [d1, d2, d3] => { results := [.lit (.bool true)], args := [d1, d2, d3] }
  | _ => none }
def holdingSumsRow : OpenClaim := { program := "ytindehoegfiiaaagreatdoor", sum := "1c8a174ed50a4ab0fcd8155f488335f0a1d4fcdf1753c01cbfcebdbe6c669a40", func := "putlog/putloglaw06.HoldingSums", spec := "holdingSums", inPlace := ["internal/abi.NoEscape", "internal/bytealg.MakeNoZero"], unfollowed := true, recurses := true, named := ["math/bits.deBruijn64tab", "internal/strconv.uint64pow10", "math/bits.deBruijn32tab"], apart := false, laid := [("math/bits.deBruijn32tab", laid_math_bits_deBruijn32tab), ("math/bits.deBruijn64tab", laid_math_bits_deBruijn64tab), ("internal/strconv.uint64pow10", laid_internal_strconv_uint64pow10)] }
def HoldingSumsSaid : Prop := holdingSumsRow.holds Tryz.pinned (OpenSpec.ofChange holdingSumsSpec)

/-- ITS FALSE NEIGHBOUR: 'it returns false'. Refute it at one input. -/
def holdingSumsWrong : ChangeSpec := { name := "holdingSums", fn := fun _ => fun
  | [d1, d2, d3] => { results := [.lit (.bool false)], args := [d1, d2, d3] }
  | _ => none }
def HoldingSumsWrongFalsely : Prop := holdingSumsRow.holds Tryz.pinned (OpenSpec.ofChange holdingSumsWrong)

/-- 'putloglaw06.HoldingGround': WHATEVER THE INPUT: true; the input reads as it did. -/
def holdingGroundSpec : ChangeSpec := { name := "holdingGround", fn := fun _ => fun
  | [d1, d2] => { results := [.lit (.bool true)], args := [d1, d2] }
  | _ => none }
def holdingGroundRow : OpenClaim := { program := "ytindehoegfiiaaagreatdoor", sum := "1c8a174ed50a4ab0fcd8155f488335f0a1d4fcdf1753c01cbfcebdbe6c669a40", func := "putlog/putloglaw06.HoldingGround", spec := "holdingGround", inPlace := ["internal/abi.NoEscape", "internal/bytealg.MakeNoZero"], unfollowed := true, recurses := true, named := ["math/bits.deBruijn64tab", "internal/strconv.uint64pow10", "math/bits.deBruijn32tab"], apart := false, laid := [("math/bits.deBruijn32tab", laid_math_bits_deBruijn32tab), ("math/bits.deBruijn64tab", laid_math_bits_deBruijn64tab), ("internal/strconv.uint64pow10", laid_internal_strconv_uint64pow10)] }
def HoldingGroundSaid : Prop := holdingGroundRow.holds Tryz.pinned (OpenSpec.ofChange holdingGroundSpec)

/-- ITS FALSE NEIGHBOUR: 'it returns false'. Refute it at one input. -/
def holdingGroundWrong : ChangeSpec := { name := "holdingGround", fn := fun _ => fun
  | [d1, d2] => { results := [.lit (.bool false)], args := [d1, d2] }
  | _ => none }
def HoldingGroundWrongFalsely : Prop := holdingGroundRow.holds Tryz.pinned (OpenSpec.ofChange holdingGroundWrong)

/-- 'putloglaw06.HoldingShares': WHATEVER THE INPUT: true; the input reads as it did. -/
def holdingSharesSpec : ChangeSpec := { name := "holdingShares", fn := fun _ => fun
  | [d1, d2, d3] => { results := [.lit (.bool true)], args := [d1, d2, d3] }
  | _ => none }
def holdingSharesRow : OpenClaim := { program := "ytindehoegfiiaaagreatdoor", sum := "1c8a174ed50a4ab0fcd8155f488335f0a1d4fcdf1753c01cbfcebdbe6c669a40", func := "putlog/putloglaw06.HoldingShares", spec := "holdingShares", inPlace := ["internal/abi.NoEscape", "internal/bytealg.MakeNoZero"], unfollowed := true, recurses := true, named := ["math/bits.deBruijn64tab", "internal/strconv.uint64pow10", "math/bits.deBruijn32tab"], apart := false, laid := [("math/bits.deBruijn32tab", laid_math_bits_deBruijn32tab), ("math/bits.deBruijn64tab", laid_math_bits_deBruijn64tab), ("internal/strconv.uint64pow10", laid_internal_strconv_uint64pow10)] }
def HoldingSharesSaid : Prop := holdingSharesRow.holds Tryz.pinned (OpenSpec.ofChange holdingSharesSpec)

/-- ITS FALSE NEIGHBOUR: 'it returns false'. Refute it at one input. -/
def holdingSharesWrong : ChangeSpec := { name := "holdingShares", fn := fun _ => fun
  | [d1, d2, d3] => { results := [.lit (.bool false)], args := [d1, d2, d3] }
  | _ => none }
def HoldingSharesWrongFalsely : Prop := holdingSharesRow.holds Tryz.pinned (OpenSpec.ofChange holdingSharesWrong)

/-- 'putloglaw06.HoldingSoles': WHATEVER THE INPUT: true; the input reads as it did. -/
def holdingSolesSpec : ChangeSpec := { name := "holdingSoles", fn := fun _ => fun
  | [d1, d2, d3] => { results := [.lit (.bool true)], args := [d1, d2, d3] }
  | _ => none }
def holdingSolesRow : OpenClaim := { program := "ytindehoegfiiaaagreatdoor", sum := "1c8a174ed50a4ab0fcd8155f488335f0a1d4fcdf1753c01cbfcebdbe6c669a40", func := "putlog/putloglaw06.HoldingSoles", spec := "holdingSoles", inPlace := ["internal/abi.NoEscape", "internal/bytealg.MakeNoZero"], unfollowed := true, recurses := true, named := ["math/bits.deBruijn64tab", "internal/strconv.uint64pow10", "math/bits.deBruijn32tab"], apart := false, laid := [("math/bits.deBruijn32tab", laid_math_bits_deBruijn32tab), ("math/bits.deBruijn64tab", laid_math_bits_deBruijn64tab), ("internal/strconv.uint64pow10", laid_internal_strconv_uint64pow10)] }
def HoldingSolesSaid : Prop := holdingSolesRow.holds Tryz.pinned (OpenSpec.ofChange holdingSolesSpec)

/-- ITS FALSE NEIGHBOUR: 'it returns false'. Refute it at one input. -/
def holdingSolesWrong : ChangeSpec := { name := "holdingSoles", fn := fun _ => fun
  | [d1, d2, d3] => { results := [.lit (.bool false)], args := [d1, d2, d3] }
  | _ => none }
def HoldingSolesWrongFalsely : Prop := holdingSolesRow.holds Tryz.pinned (OpenSpec.ofChange holdingSolesWrong)

/-- 'putloglaw06.HoldingJacks': WHATEVER THE INPUT: true; the input reads as it did. -/
def holdingJacksSpec : ChangeSpec := { name := "holdingJacks", fn := fun _ => fun
  | [d1, d2, d3] => { results := [.lit (.bool true)], args := [d1, d2, d3] }
  | _ => none }
def holdingJacksRow : OpenClaim := { program := "ytindehoegfiiaaagreatdoor", sum := "1c8a174ed50a4ab0fcd8155f488335f0a1d4fcdf1753c01cbfcebdbe6c669a40", func := "putlog/putloglaw06.HoldingJacks", spec := "holdingJacks", inPlace := ["internal/abi.NoEscape", "internal/bytealg.MakeNoZero"], unfollowed := true, recurses := true, named := ["math/bits.deBruijn64tab", "internal/strconv.uint64pow10", "math/bits.deBruijn32tab"], apart := false, laid := [("math/bits.deBruijn32tab", laid_math_bits_deBruijn32tab), ("math/bits.deBruijn64tab", laid_math_bits_deBruijn64tab), ("internal/strconv.uint64pow10", laid_internal_strconv_uint64pow10)] }
def HoldingJacksSaid : Prop := holdingJacksRow.holds Tryz.pinned (OpenSpec.ofChange holdingJacksSpec)

/-- ITS FALSE NEIGHBOUR: 'it returns false'. Refute it at one input. -/
def holdingJacksWrong : ChangeSpec := { name := "holdingJacks", fn := fun _ => fun
  | [d1, d2, d3] => { results := [.lit (.bool false)], args := [d1, d2, d3] }
  | _ => none }
def HoldingJacksWrongFalsely : Prop := holdingJacksRow.holds Tryz.pinned (OpenSpec.ofChange holdingJacksWrong)

/- THE SECOND FORM. 'bulk': how many values and letters a reading holds, each counted each time it is reached (what is shared counts as often as it is met; a slice's spare places count too). A statement '..UptoSaid' is the law's where the arguments, and the package variables that the reading takes, are together of bulk at most 1048576: NARROWER than '..Said'. Prove '..Said' where nothing that the law and all that it calls make is longer than what came in: it says more and counts as full. Else prove '..UptoSaid'. A law counts once. -/
mutual
def uptoBulk {H : Type} : DataW H → Nat
  | .lit (.string bytes) => bytes.length + 1
  | .lit _ => 1
  | .nil => 1
  | .ptr d => uptoBulk d + 1
  | .slice elems spare => uptoBulkAll elems + uptoBulkAll spare + 1
  | .agg parts => uptoBulkAll parts + 1
  | .iface _ d => uptoBulk d + 1
  | .map entries => uptoBulkEntries entries + 1
  | .held _ => 1
def uptoBulkAll {H : Type} : List (DataW H) → Nat
  | [] => 0
  | d :: r => uptoBulk d + uptoBulkAll r
def uptoBulkEntries {H : Type} : List (Lit × DataW H) → Nat
  | [] => 0
  | x :: r => uptoBulkEntry x + uptoBulkEntries r
def uptoBulkEntry {H : Type} : Lit × DataW H → Nat
  | (.string bytes, d) => bytes.length + uptoBulk d + 1
  | (_, d) => uptoBulk d + 1
 end
def uptoSmall : (H : Type) → List (DataW H) → Bool := fun _ ds => decide (uptoBulkAll ds ≤ 1048576)
def OpenSpec.upto (s : _root_.Go.ChangeSpec) : _root_.Go.OpenSpec := { _root_.Go.OpenSpec.ofChange s with cond := some uptoSmall }

/-- 'putloglaw06.HoldingGrids', WHERE WHAT IT READS IS OF BULK AT MOST 1048576: true; the input reads as it did. -/
def holdingGridsUptoRow : OpenClaim := { program := "ytindehoegfiiaaagreatdoor", sum := "1c8a174ed50a4ab0fcd8155f488335f0a1d4fcdf1753c01cbfcebdbe6c669a40", func := "putlog/putloglaw06.HoldingGrids", spec := "holdingGrids", inPlace := ["internal/abi.NoEscape", "internal/bytealg.MakeNoZero"], unfollowed := true, recurses := true, named := ["math/bits.deBruijn64tab", "internal/strconv.uint64pow10", "math/bits.deBruijn32tab"], apart := false, laid := [("math/bits.deBruijn32tab", laid_math_bits_deBruijn32tab), ("math/bits.deBruijn64tab", laid_math_bits_deBruijn64tab), ("internal/strconv.uint64pow10", laid_internal_strconv_uint64pow10)], narrowed := true }
def HoldingGridsUptoSaid : Prop := holdingGridsUptoRow.holds Tryz.pinned (OpenSpec.upto holdingGridsSpec)

/-- 'putloglaw06.HoldingChooses', WHERE WHAT IT READS IS OF BULK AT MOST 1048576: true; the input reads as it did. -/
def holdingChoosesUptoRow : OpenClaim := { program := "ytindehoegfiiaaagreatdoor", sum := "1c8a174ed50a4ab0fcd8155f488335f0a1d4fcdf1753c01cbfcebdbe6c669a40", func := "putlog/putloglaw06.HoldingChooses", spec := "holdingChooses", inPlace := ["internal/abi.NoEscape", "internal/bytealg.MakeNoZero"], unfollowed := true, recurses := true, named := ["math/bits.deBruijn64tab", "internal/strconv.uint64pow10", "math/bits.deBruijn32tab"], apart := false, laid := [("math/bits.deBruijn32tab", laid_math_bits_deBruijn32tab), ("math/bits.deBruijn64tab", laid_math_bits_deBruijn64tab), ("internal/strconv.uint64pow10", laid_internal_strconv_uint64pow10)], narrowed := true }
def HoldingChoosesUptoSaid : Prop := holdingChoosesUptoRow.holds Tryz.pinned (OpenSpec.upto holdingChoosesSpec)

/-- 'putloglaw06.HoldingDemands', WHERE WHAT IT READS IS OF BULK AT MOST 1048576: true; the input reads as it did. -/
def holdingDemandsUptoRow : OpenClaim := { program := "ytindehoegfiiaaagreatdoor", sum := "1c8a174ed50a4ab0fcd8155f488335f0a1d4fcdf1753c01cbfcebdbe6c669a40", func := "putlog/putloglaw06.HoldingDemands", spec := "holdingDemands", inPlace := ["internal/abi.NoEscape", "internal/bytealg.MakeNoZero"], unfollowed := true, recurses := true, named := ["math/bits.deBruijn64tab", "internal/strconv.uint64pow10", "math/bits.deBruijn32tab"], apart := false, laid := [("math/bits.deBruijn32tab", laid_math_bits_deBruijn32tab), ("math/bits.deBruijn64tab", laid_math_bits_deBruijn64tab), ("internal/strconv.uint64pow10", laid_internal_strconv_uint64pow10)], narrowed := true }
def HoldingDemandsUptoSaid : Prop := holdingDemandsUptoRow.holds Tryz.pinned (OpenSpec.upto holdingDemandsSpec)

/-- 'putloglaw06.HoldingGaps', WHERE WHAT IT READS IS OF BULK AT MOST 1048576: true; the input reads as it did. -/
def holdingGapsUptoRow : OpenClaim := { program := "ytindehoegfiiaaagreatdoor", sum := "1c8a174ed50a4ab0fcd8155f488335f0a1d4fcdf1753c01cbfcebdbe6c669a40", func := "putlog/putloglaw06.HoldingGaps", spec := "holdingGaps", inPlace := ["internal/abi.NoEscape", "internal/bytealg.MakeNoZero"], unfollowed := true, recurses := true, named := ["math/bits.deBruijn64tab", "internal/strconv.uint64pow10", "math/bits.deBruijn32tab"], apart := false, laid := [("math/bits.deBruijn32tab", laid_math_bits_deBruijn32tab), ("math/bits.deBruijn64tab", laid_math_bits_deBruijn64tab), ("internal/strconv.uint64pow10", laid_internal_strconv_uint64pow10)], narrowed := true }
def HoldingGapsUptoSaid : Prop := holdingGapsUptoRow.holds Tryz.pinned (OpenSpec.upto holdingGapsSpec)

/-- 'putloglaw06.HoldingSelect', WHERE WHAT IT READS IS OF BULK AT MOST 1048576: true; the input reads as it did. -/
def holdingSelectUptoRow : OpenClaim := { program := "ytindehoegfiiaaagreatdoor", sum := "1c8a174ed50a4ab0fcd8155f488335f0a1d4fcdf1753c01cbfcebdbe6c669a40", func := "putlog/putloglaw06.HoldingSelect", spec := "holdingSelect", inPlace := ["internal/abi.NoEscape", "internal/bytealg.MakeNoZero"], unfollowed := true, recurses := true, named := ["math/bits.deBruijn64tab", "internal/strconv.uint64pow10", "math/bits.deBruijn32tab"], apart := false, laid := [("math/bits.deBruijn32tab", laid_math_bits_deBruijn32tab), ("math/bits.deBruijn64tab", laid_math_bits_deBruijn64tab), ("internal/strconv.uint64pow10", laid_internal_strconv_uint64pow10)], narrowed := true }
def HoldingSelectUptoSaid : Prop := holdingSelectUptoRow.holds Tryz.pinned (OpenSpec.upto holdingSelectSpec)

/-- 'putloglaw06.HoldingEssential', WHERE WHAT IT READS IS OF BULK AT MOST 1048576: true; the input reads as it did. -/
def holdingEssentialUptoRow : OpenClaim := { program := "ytindehoegfiiaaagreatdoor", sum := "1c8a174ed50a4ab0fcd8155f488335f0a1d4fcdf1753c01cbfcebdbe6c669a40", func := "putlog/putloglaw06.HoldingEssential", spec := "holdingEssential", inPlace := ["internal/abi.NoEscape", "internal/bytealg.MakeNoZero"], unfollowed := true, recurses := true, named := ["math/bits.deBruijn64tab", "internal/strconv.uint64pow10", "math/bits.deBruijn32tab"], apart := false, laid := [("math/bits.deBruijn32tab", laid_math_bits_deBruijn32tab), ("math/bits.deBruijn64tab", laid_math_bits_deBruijn64tab), ("internal/strconv.uint64pow10", laid_internal_strconv_uint64pow10)], narrowed := true }
def HoldingEssentialUptoSaid : Prop := holdingEssentialUptoRow.holds Tryz.pinned (OpenSpec.upto holdingEssentialSpec)

/-- 'putloglaw06.HoldingSums', WHERE WHAT IT READS IS OF BULK AT MOST 1048576: true; the input reads as it did. -/
def holdingSumsUptoRow : OpenClaim := { program := "ytindehoegfiiaaagreatdoor", sum := "1c8a174ed50a4ab0fcd8155f488335f0a1d4fcdf1753c01cbfcebdbe6c669a40", func := "putlog/putloglaw06.HoldingSums", spec := "holdingSums", inPlace := ["internal/abi.NoEscape", "internal/bytealg.MakeNoZero"], unfollowed := true, recurses := true, named := ["math/bits.deBruijn64tab", "internal/strconv.uint64pow10", "math/bits.deBruijn32tab"], apart := false, laid := [("math/bits.deBruijn32tab", laid_math_bits_deBruijn32tab), ("math/bits.deBruijn64tab", laid_math_bits_deBruijn64tab), ("internal/strconv.uint64pow10", laid_internal_strconv_uint64pow10)], narrowed := true }
def HoldingSumsUptoSaid : Prop := holdingSumsUptoRow.holds Tryz.pinned (OpenSpec.upto holdingSumsSpec)

/-- 'putloglaw06.HoldingGround', WHERE WHAT IT READS IS OF BULK AT MOST 1048576: true; the input reads as it did. -/
def holdingGroundUptoRow : OpenClaim := { program := "ytindehoegfiiaaagreatdoor", sum := "1c8a174ed50a4ab0fcd8155f488335f0a1d4fcdf1753c01cbfcebdbe6c669a40", func := "putlog/putloglaw06.HoldingGround", spec := "holdingGround", inPlace := ["internal/abi.NoEscape", "internal/bytealg.MakeNoZero"], unfollowed := true, recurses := true, named := ["math/bits.deBruijn64tab", "internal/strconv.uint64pow10", "math/bits.deBruijn32tab"], apart := false, laid := [("math/bits.deBruijn32tab", laid_math_bits_deBruijn32tab), ("math/bits.deBruijn64tab", laid_math_bits_deBruijn64tab), ("internal/strconv.uint64pow10", laid_internal_strconv_uint64pow10)], narrowed := true }
def HoldingGroundUptoSaid : Prop := holdingGroundUptoRow.holds Tryz.pinned (OpenSpec.upto holdingGroundSpec)

/-- 'putloglaw06.HoldingShares', WHERE WHAT IT READS IS OF BULK AT MOST 1048576: true; the input reads as it did. -/
def holdingSharesUptoRow : OpenClaim := { program := "ytindehoegfiiaaagreatdoor", sum := "1c8a174ed50a4ab0fcd8155f488335f0a1d4fcdf1753c01cbfcebdbe6c669a40", func := "putlog/putloglaw06.HoldingShares", spec := "holdingShares", inPlace := ["internal/abi.NoEscape", "internal/bytealg.MakeNoZero"], unfollowed := true, recurses := true, named := ["math/bits.deBruijn64tab", "internal/strconv.uint64pow10", "math/bits.deBruijn32tab"], apart := false, laid := [("math/bits.deBruijn32tab", laid_math_bits_deBruijn32tab), ("math/bits.deBruijn64tab", laid_math_bits_deBruijn64tab), ("internal/strconv.uint64pow10", laid_internal_strconv_uint64pow10)], narrowed := true }
def HoldingSharesUptoSaid : Prop := holdingSharesUptoRow.holds Tryz.pinned (OpenSpec.upto holdingSharesSpec)

/-- 'putloglaw06.HoldingSoles', WHERE WHAT IT READS IS OF BULK AT MOST 1048576: true; the input reads as it did. -/
def holdingSolesUptoRow : OpenClaim := { program := "ytindehoegfiiaaagreatdoor", sum := "1c8a174ed50a4ab0fcd8155f488335f0a1d4fcdf1753c01cbfcebdbe6c669a40", func := "putlog/putloglaw06.HoldingSoles", spec := "holdingSoles", inPlace := ["internal/abi.NoEscape", "internal/bytealg.MakeNoZero"], unfollowed := true, recurses := true, named := ["math/bits.deBruijn64tab", "internal/strconv.uint64pow10", "math/bits.deBruijn32tab"], apart := false, laid := [("math/bits.deBruijn32tab", laid_math_bits_deBruijn32tab), ("math/bits.deBruijn64tab", laid_math_bits_deBruijn64tab), ("internal/strconv.uint64pow10", laid_internal_strconv_uint64pow10)], narrowed := true }
def HoldingSolesUptoSaid : Prop := holdingSolesUptoRow.holds Tryz.pinned (OpenSpec.upto holdingSolesSpec)

/-- 'putloglaw06.HoldingJacks', WHERE WHAT IT READS IS OF BULK AT MOST 1048576: true; the input reads as it did. -/
def holdingJacksUptoRow : OpenClaim := { program := "ytindehoegfiiaaagreatdoor", sum := "1c8a174ed50a4ab0fcd8155f488335f0a1d4fcdf1753c01cbfcebdbe6c669a40", func := "putlog/putloglaw06.HoldingJacks", spec := "holdingJacks", inPlace := ["internal/abi.NoEscape", "internal/bytealg.MakeNoZero"], unfollowed := true, recurses := true, named := ["math/bits.deBruijn64tab", "internal/strconv.uint64pow10", "math/bits.deBruijn32tab"], apart := false, laid := [("math/bits.deBruijn32tab", laid_math_bits_deBruijn32tab), ("math/bits.deBruijn64tab", laid_math_bits_deBruijn64tab), ("internal/strconv.uint64pow10", laid_internal_strconv_uint64pow10)], narrowed := true }
def HoldingJacksUptoSaid : Prop := holdingJacksUptoRow.holds Tryz.pinned (OpenSpec.upto holdingJacksSpec)

end Rows
end Go.Proofs.YtindehoegfiiaaaGreatDoor
