/-
  NARROWER THAN 'FOR EVERY INPUT', by the rows' own cells (each row's printed sentence says how): UnipolyDivisors: laid · UnipolyResultants: laid · UnipolyOverIntegers: laid · UnipolyDivision: laid · UnipolyLimits: laid · UnipolySquarefree: laid · UnipolyRing: laid · UnipolyGreatNumbers: laid · UnipolyEvaluates: laid · UnipolyDerives: laid · UnipolyMatchesReference: laid.
  DERIVED. THE GIVEN ROWS OF THIS SEAT. 11 by the template 'for every input the law returns true; each argument reads behind the call as it read before'; 0 by the template 'total and deterministic' (their statements: YtpjjbhhoagocjaaGreatDoorTotals.lean).
  GIVEN WITH THE SEED: the statements are not yours to turn. If you find one false, say at which input.
  Laid BY PROGRAM, IN A SANDBOX (cutbox-rows.mjs): the forced cells as the released guide's own fill.sh prints them over the translation c62469746aa5e3bc… (all of the seat's roots in one cut). By AI agents, Wed Nov 11 2026. No macro, syntax, notation, axiom, sorry.
-/
import Derived.Test.YtpjjbhhoagocjaaGreatDoorChecked
import GoSem.Claim
import GoSem.ClaimJoined
import GoSem.ClaimMapViews
import Derived.JoinedTies
import Derived.KernelRfl
namespace Go.Proofs.YtpjjbhhoagocjaaGreatDoor
/- THE CELL 'sum', in the pinned program and in every row, IS THE sha256 OF THE DUMP (.gsa) THAT YtpjjbhhoagocjaaGreatDoorProg.lean LOADS. Nothing in Lean hashes anything: it is a label: what it is worth is what the hold of that sum in a sandbox is worth. -/
noncomputable def Tryz.pinned : Pinned := { name := "ytpjjbhhoagocjaagreatdoor", sum := "c62469746aa5e3bc797eda45e244d13857ce95f21107007909bfd6a6a73aac0e", checked := Tryz.checked }
namespace Rows
def none {H : Type} : Left H := { results := [], args := [] }

/- WHAT THE LISTED PACKAGE-LEVEL VARIABLES READ AS WHEN THE CALL BEGINS. Each datum BY PROGRAM (the guide's laid-datum.mjs) off the statement by which the dump's own 'gosem.cut.vars' lays the variable. In a bare row this is a premise. The card (YtpjjbhhoagocjaaGreatDoorCards.lean) ties it to the program's text. -/
def laid_math_bits_deBruijn32tab {H : Type} : DataW H := .agg [.lit (.int .u8 0), .lit (.int .u8 1), .lit (.int .u8 28), .lit (.int .u8 2), .lit (.int .u8 29), .lit (.int .u8 14), .lit (.int .u8 24), .lit (.int .u8 3), .lit (.int .u8 30), .lit (.int .u8 22), .lit (.int .u8 20), .lit (.int .u8 15), .lit (.int .u8 25), .lit (.int .u8 17), .lit (.int .u8 4), .lit (.int .u8 8), .lit (.int .u8 31), .lit (.int .u8 27), .lit (.int .u8 13), .lit (.int .u8 23), .lit (.int .u8 21), .lit (.int .u8 19), .lit (.int .u8 16), .lit (.int .u8 7), .lit (.int .u8 26), .lit (.int .u8 12), .lit (.int .u8 18), .lit (.int .u8 6), .lit (.int .u8 11), .lit (.int .u8 5), .lit (.int .u8 10), .lit (.int .u8 9)]
def laid_math_bits_deBruijn64tab {H : Type} : DataW H := .agg [.lit (.int .u8 0), .lit (.int .u8 1), .lit (.int .u8 56), .lit (.int .u8 2), .lit (.int .u8 57), .lit (.int .u8 49), .lit (.int .u8 28), .lit (.int .u8 3), .lit (.int .u8 61), .lit (.int .u8 58), .lit (.int .u8 42), .lit (.int .u8 50), .lit (.int .u8 38), .lit (.int .u8 29), .lit (.int .u8 17), .lit (.int .u8 4), .lit (.int .u8 62), .lit (.int .u8 47), .lit (.int .u8 59), .lit (.int .u8 36), .lit (.int .u8 45), .lit (.int .u8 43), .lit (.int .u8 51), .lit (.int .u8 22), .lit (.int .u8 53), .lit (.int .u8 39), .lit (.int .u8 33), .lit (.int .u8 30), .lit (.int .u8 24), .lit (.int .u8 18), .lit (.int .u8 12), .lit (.int .u8 5), .lit (.int .u8 63), .lit (.int .u8 55), .lit (.int .u8 48), .lit (.int .u8 27), .lit (.int .u8 60), .lit (.int .u8 41), .lit (.int .u8 37), .lit (.int .u8 16), .lit (.int .u8 46), .lit (.int .u8 35), .lit (.int .u8 44), .lit (.int .u8 21), .lit (.int .u8 52), .lit (.int .u8 32), .lit (.int .u8 23), .lit (.int .u8 11), .lit (.int .u8 54), .lit (.int .u8 26), .lit (.int .u8 40), .lit (.int .u8 15), .lit (.int .u8 34), .lit (.int .u8 20), .lit (.int .u8 31), .lit (.int .u8 10), .lit (.int .u8 25), .lit (.int .u8 14), .lit (.int .u8 19), .lit (.int .u8 9), .lit (.int .u8 13), .lit (.int .u8 8), .lit (.int .u8 7), .lit (.int .u8 6)]
def laid_internal_strconv_uint64pow10 {H : Type} : DataW H := .agg [.lit (.int .u64 1), .lit (.int .u64 10), .lit (.int .u64 100), .lit (.int .u64 1000), .lit (.int .u64 10000), .lit (.int .u64 100000), .lit (.int .u64 1000000), .lit (.int .u64 10000000), .lit (.int .u64 100000000), .lit (.int .u64 1000000000), .lit (.int .u64 10000000000), .lit (.int .u64 100000000000), .lit (.int .u64 1000000000000), .lit (.int .u64 10000000000000), .lit (.int .u64 100000000000000), .lit (.int .u64 1000000000000000), .lit (.int .u64 10000000000000000), .lit (.int .u64 100000000000000000), .lit (.int .u64 1000000000000000000), .lit (.int .u64 10000000000000000000)]

/-- 'straightedgelaw03.UnipolyDivisors': WHATEVER THE INPUT: true; the input reads as it did. -/
def unipolyDivisorsSpec : ChangeSpec := { name := "unipolyDivisors", fn := fun _ => fun
  | [d1, d2, d3] => { results := [.lit (.bool true)], args := [d1, d2, d3] }
  | _ => none }
def unipolyDivisorsRow : OpenClaim := { program := "ytpjjbhhoagocjaagreatdoor", sum := "c62469746aa5e3bc797eda45e244d13857ce95f21107007909bfd6a6a73aac0e", func := "straightedge/straightedgelaw03.UnipolyDivisors", spec := "unipolyDivisors", inPlace := ["internal/abi.NoEscape"], unfollowed := true, recurses := true, named := ["internal/strconv.uint64pow10", "math/bits.deBruijn32tab", "math/bits.deBruijn64tab"], apart := false, laid := [("math/bits.deBruijn32tab", laid_math_bits_deBruijn32tab), ("math/bits.deBruijn64tab", laid_math_bits_deBruijn64tab), ("internal/strconv.uint64pow10", laid_internal_strconv_uint64pow10)] }
def UnipolyDivisorsSaid : Prop := unipolyDivisorsRow.holds Tryz.pinned (OpenSpec.ofChange unipolyDivisorsSpec)

/-- ITS FALSE NEIGHBOUR: 'it returns false'. Refute it at one input. -/
def unipolyDivisorsWrong : ChangeSpec := { name := "unipolyDivisors", fn := fun _ => fun
  | [d1, d2, d3] => { results := [.lit (.bool false)], args := [d1, d2, d3] }
  | _ => none }
def UnipolyDivisorsWrongFalsely : Prop := unipolyDivisorsRow.holds Tryz.pinned (OpenSpec.ofChange unipolyDivisorsWrong)

/-- 'straightedgelaw03.UnipolyResultants': WHATEVER THE INPUT: true; the input reads as it did. -/
def unipolyResultantsSpec : ChangeSpec := { name := "unipolyResultants", fn := fun _ => fun
  | [d1, d2, d3, d4, d5] => { results := [.lit (.bool true)], args := [d1, d2, d3, d4, d5] }
  | _ => none }
def unipolyResultantsRow : OpenClaim := { program := "ytpjjbhhoagocjaagreatdoor", sum := "c62469746aa5e3bc797eda45e244d13857ce95f21107007909bfd6a6a73aac0e", func := "straightedge/straightedgelaw03.UnipolyResultants", spec := "unipolyResultants", inPlace := ["internal/abi.NoEscape"], unfollowed := true, recurses := true, named := ["internal/strconv.uint64pow10", "math/bits.deBruijn32tab", "math/bits.deBruijn64tab"], apart := false, laid := [("math/bits.deBruijn32tab", laid_math_bits_deBruijn32tab), ("math/bits.deBruijn64tab", laid_math_bits_deBruijn64tab), ("internal/strconv.uint64pow10", laid_internal_strconv_uint64pow10)] }
def UnipolyResultantsSaid : Prop := unipolyResultantsRow.holds Tryz.pinned (OpenSpec.ofChange unipolyResultantsSpec)

/-- ITS FALSE NEIGHBOUR: 'it returns false'. Refute it at one input. -/
def unipolyResultantsWrong : ChangeSpec := { name := "unipolyResultants", fn := fun _ => fun
  | [d1, d2, d3, d4, d5] => { results := [.lit (.bool false)], args := [d1, d2, d3, d4, d5] }
  | _ => none }
def UnipolyResultantsWrongFalsely : Prop := unipolyResultantsRow.holds Tryz.pinned (OpenSpec.ofChange unipolyResultantsWrong)

/-- 'straightedgelaw03.UnipolyOverIntegers': WHATEVER THE INPUT: true; the input reads as it did. -/
def unipolyOverIntegersSpec : ChangeSpec := { name := "unipolyOverIntegers", fn := fun _ => fun
  | [d1, d2] => { results := [.lit (.bool true)], args := [d1, d2] }
  | _ => none }
def unipolyOverIntegersRow : OpenClaim := { program := "ytpjjbhhoagocjaagreatdoor", sum := "c62469746aa5e3bc797eda45e244d13857ce95f21107007909bfd6a6a73aac0e", func := "straightedge/straightedgelaw03.UnipolyOverIntegers", spec := "unipolyOverIntegers", inPlace := ["internal/abi.NoEscape"], unfollowed := true, recurses := true, named := ["internal/strconv.uint64pow10", "math/bits.deBruijn32tab", "math/bits.deBruijn64tab"], apart := false, laid := [("math/bits.deBruijn32tab", laid_math_bits_deBruijn32tab), ("math/bits.deBruijn64tab", laid_math_bits_deBruijn64tab), ("internal/strconv.uint64pow10", laid_internal_strconv_uint64pow10)] }
def UnipolyOverIntegersSaid : Prop := unipolyOverIntegersRow.holds Tryz.pinned (OpenSpec.ofChange unipolyOverIntegersSpec)

/-- ITS FALSE NEIGHBOUR: 'it returns false'. Refute it at one input. -/
def unipolyOverIntegersWrong : ChangeSpec := { name := "unipolyOverIntegers", fn := fun _ => fun
  | [d1, d2] => { results := [.lit (.bool false)], args := [d1, d2] }
  | _ => none }
def UnipolyOverIntegersWrongFalsely : Prop := unipolyOverIntegersRow.holds Tryz.pinned (OpenSpec.ofChange unipolyOverIntegersWrong)

/-- 'straightedgelaw03.UnipolyDivision': WHATEVER THE INPUT: true; the input reads as it did. -/
def unipolyDivisionSpec : ChangeSpec := { name := "unipolyDivision", fn := fun _ => fun
  | [d1, d2] => { results := [.lit (.bool true)], args := [d1, d2] }
  | _ => none }
def unipolyDivisionRow : OpenClaim := { program := "ytpjjbhhoagocjaagreatdoor", sum := "c62469746aa5e3bc797eda45e244d13857ce95f21107007909bfd6a6a73aac0e", func := "straightedge/straightedgelaw03.UnipolyDivision", spec := "unipolyDivision", inPlace := ["internal/abi.NoEscape"], unfollowed := true, recurses := true, named := ["internal/strconv.uint64pow10", "math/bits.deBruijn32tab", "math/bits.deBruijn64tab"], apart := false, laid := [("math/bits.deBruijn32tab", laid_math_bits_deBruijn32tab), ("math/bits.deBruijn64tab", laid_math_bits_deBruijn64tab), ("internal/strconv.uint64pow10", laid_internal_strconv_uint64pow10)] }
def UnipolyDivisionSaid : Prop := unipolyDivisionRow.holds Tryz.pinned (OpenSpec.ofChange unipolyDivisionSpec)

/-- ITS FALSE NEIGHBOUR: 'it returns false'. Refute it at one input. -/
def unipolyDivisionWrong : ChangeSpec := { name := "unipolyDivision", fn := fun _ => fun
  | [d1, d2] => { results := [.lit (.bool false)], args := [d1, d2] }
  | _ => none }
def UnipolyDivisionWrongFalsely : Prop := unipolyDivisionRow.holds Tryz.pinned (OpenSpec.ofChange unipolyDivisionWrong)

/-- 'straightedgelaw03.UnipolyLimits': WHATEVER THE INPUT: true; the input reads as it did. -/
def unipolyLimitsSpec : ChangeSpec := { name := "unipolyLimits", fn := fun _ => fun
  | [d1, d2, d3] => { results := [.lit (.bool true)], args := [d1, d2, d3] }
  | _ => none }
def unipolyLimitsRow : OpenClaim := { program := "ytpjjbhhoagocjaagreatdoor", sum := "c62469746aa5e3bc797eda45e244d13857ce95f21107007909bfd6a6a73aac0e", func := "straightedge/straightedgelaw03.UnipolyLimits", spec := "unipolyLimits", inPlace := ["internal/abi.NoEscape"], unfollowed := true, recurses := true, named := ["internal/strconv.uint64pow10", "math/bits.deBruijn32tab", "math/bits.deBruijn64tab"], apart := false, laid := [("math/bits.deBruijn32tab", laid_math_bits_deBruijn32tab), ("math/bits.deBruijn64tab", laid_math_bits_deBruijn64tab), ("internal/strconv.uint64pow10", laid_internal_strconv_uint64pow10)] }
def UnipolyLimitsSaid : Prop := unipolyLimitsRow.holds Tryz.pinned (OpenSpec.ofChange unipolyLimitsSpec)

/-- ITS FALSE NEIGHBOUR: 'it returns false'. Refute it at one input. -/
def unipolyLimitsWrong : ChangeSpec := { name := "unipolyLimits", fn := fun _ => fun
  | [d1, d2, d3] => { results := [.lit (.bool false)], args := [d1, d2, d3] }
  | _ => none }
def UnipolyLimitsWrongFalsely : Prop := unipolyLimitsRow.holds Tryz.pinned (OpenSpec.ofChange unipolyLimitsWrong)

/-- 'straightedgelaw03.UnipolySquarefree': WHATEVER THE INPUT: true; the input reads as it did. -/
def unipolySquarefreeSpec : ChangeSpec := { name := "unipolySquarefree", fn := fun _ => fun
  | [d1, d2, d3] => { results := [.lit (.bool true)], args := [d1, d2, d3] }
  | _ => none }
def unipolySquarefreeRow : OpenClaim := { program := "ytpjjbhhoagocjaagreatdoor", sum := "c62469746aa5e3bc797eda45e244d13857ce95f21107007909bfd6a6a73aac0e", func := "straightedge/straightedgelaw03.UnipolySquarefree", spec := "unipolySquarefree", inPlace := ["internal/abi.NoEscape"], unfollowed := true, recurses := true, named := ["internal/strconv.uint64pow10", "math/bits.deBruijn32tab", "math/bits.deBruijn64tab"], apart := false, laid := [("math/bits.deBruijn32tab", laid_math_bits_deBruijn32tab), ("math/bits.deBruijn64tab", laid_math_bits_deBruijn64tab), ("internal/strconv.uint64pow10", laid_internal_strconv_uint64pow10)] }
def UnipolySquarefreeSaid : Prop := unipolySquarefreeRow.holds Tryz.pinned (OpenSpec.ofChange unipolySquarefreeSpec)

/-- ITS FALSE NEIGHBOUR: 'it returns false'. Refute it at one input. -/
def unipolySquarefreeWrong : ChangeSpec := { name := "unipolySquarefree", fn := fun _ => fun
  | [d1, d2, d3] => { results := [.lit (.bool false)], args := [d1, d2, d3] }
  | _ => none }
def UnipolySquarefreeWrongFalsely : Prop := unipolySquarefreeRow.holds Tryz.pinned (OpenSpec.ofChange unipolySquarefreeWrong)

/-- 'straightedgelaw03.UnipolyRing': WHATEVER THE INPUT: true; the input reads as it did. -/
def unipolyRingSpec : ChangeSpec := { name := "unipolyRing", fn := fun _ => fun
  | [d1, d2, d3] => { results := [.lit (.bool true)], args := [d1, d2, d3] }
  | _ => none }
def unipolyRingRow : OpenClaim := { program := "ytpjjbhhoagocjaagreatdoor", sum := "c62469746aa5e3bc797eda45e244d13857ce95f21107007909bfd6a6a73aac0e", func := "straightedge/straightedgelaw03.UnipolyRing", spec := "unipolyRing", inPlace := ["internal/abi.NoEscape"], unfollowed := true, recurses := true, named := ["internal/strconv.uint64pow10", "math/bits.deBruijn32tab", "math/bits.deBruijn64tab"], apart := false, laid := [("math/bits.deBruijn32tab", laid_math_bits_deBruijn32tab), ("math/bits.deBruijn64tab", laid_math_bits_deBruijn64tab), ("internal/strconv.uint64pow10", laid_internal_strconv_uint64pow10)] }
def UnipolyRingSaid : Prop := unipolyRingRow.holds Tryz.pinned (OpenSpec.ofChange unipolyRingSpec)

/-- ITS FALSE NEIGHBOUR: 'it returns false'. Refute it at one input. -/
def unipolyRingWrong : ChangeSpec := { name := "unipolyRing", fn := fun _ => fun
  | [d1, d2, d3] => { results := [.lit (.bool false)], args := [d1, d2, d3] }
  | _ => none }
def UnipolyRingWrongFalsely : Prop := unipolyRingRow.holds Tryz.pinned (OpenSpec.ofChange unipolyRingWrong)

/-- 'straightedgelaw03.UnipolyGreatNumbers': WHATEVER THE INPUT: true; the input reads as it did. -/
def unipolyGreatNumbersSpec : ChangeSpec := { name := "unipolyGreatNumbers", fn := fun _ => fun
  | [d1, d2] => { results := [.lit (.bool true)], args := [d1, d2] }
  | _ => none }
def unipolyGreatNumbersRow : OpenClaim := { program := "ytpjjbhhoagocjaagreatdoor", sum := "c62469746aa5e3bc797eda45e244d13857ce95f21107007909bfd6a6a73aac0e", func := "straightedge/straightedgelaw03.UnipolyGreatNumbers", spec := "unipolyGreatNumbers", inPlace := ["internal/abi.NoEscape"], unfollowed := true, recurses := true, named := ["internal/strconv.uint64pow10", "math/bits.deBruijn32tab", "math/bits.deBruijn64tab"], apart := false, laid := [("math/bits.deBruijn32tab", laid_math_bits_deBruijn32tab), ("math/bits.deBruijn64tab", laid_math_bits_deBruijn64tab), ("internal/strconv.uint64pow10", laid_internal_strconv_uint64pow10)] }
def UnipolyGreatNumbersSaid : Prop := unipolyGreatNumbersRow.holds Tryz.pinned (OpenSpec.ofChange unipolyGreatNumbersSpec)

/-- ITS FALSE NEIGHBOUR: 'it returns false'. Refute it at one input. -/
def unipolyGreatNumbersWrong : ChangeSpec := { name := "unipolyGreatNumbers", fn := fun _ => fun
  | [d1, d2] => { results := [.lit (.bool false)], args := [d1, d2] }
  | _ => none }
def UnipolyGreatNumbersWrongFalsely : Prop := unipolyGreatNumbersRow.holds Tryz.pinned (OpenSpec.ofChange unipolyGreatNumbersWrong)

/-- 'straightedgelaw03.UnipolyEvaluates': WHATEVER THE INPUT: true; the input reads as it did. -/
def unipolyEvaluatesSpec : ChangeSpec := { name := "unipolyEvaluates", fn := fun _ => fun
  | [d1, d2, d3, d4] => { results := [.lit (.bool true)], args := [d1, d2, d3, d4] }
  | _ => none }
def unipolyEvaluatesRow : OpenClaim := { program := "ytpjjbhhoagocjaagreatdoor", sum := "c62469746aa5e3bc797eda45e244d13857ce95f21107007909bfd6a6a73aac0e", func := "straightedge/straightedgelaw03.UnipolyEvaluates", spec := "unipolyEvaluates", inPlace := ["internal/abi.NoEscape"], unfollowed := true, recurses := true, named := ["internal/strconv.uint64pow10", "math/bits.deBruijn32tab", "math/bits.deBruijn64tab"], apart := false, laid := [("math/bits.deBruijn32tab", laid_math_bits_deBruijn32tab), ("math/bits.deBruijn64tab", laid_math_bits_deBruijn64tab), ("internal/strconv.uint64pow10", laid_internal_strconv_uint64pow10)] }
def UnipolyEvaluatesSaid : Prop := unipolyEvaluatesRow.holds Tryz.pinned (OpenSpec.ofChange unipolyEvaluatesSpec)

/-- ITS FALSE NEIGHBOUR: 'it returns false'. Refute it at one input. -/
def unipolyEvaluatesWrong : ChangeSpec := { name := "unipolyEvaluates", fn := fun _ => fun
  | [d1, d2, d3, d4] => { results := [.lit (.bool false)], args := [d1, d2, d3, d4] }
  | _ => none }
def UnipolyEvaluatesWrongFalsely : Prop := unipolyEvaluatesRow.holds Tryz.pinned (OpenSpec.ofChange unipolyEvaluatesWrong)

/-- 'straightedgelaw03.UnipolyDerives': WHATEVER THE INPUT: true; the input reads as it did. -/
def unipolyDerivesSpec : ChangeSpec := { name := "unipolyDerives", fn := fun _ => fun
  | [d1, d2] => { results := [.lit (.bool true)], args := [d1, d2] }
  | _ => none }
def unipolyDerivesRow : OpenClaim := { program := "ytpjjbhhoagocjaagreatdoor", sum := "c62469746aa5e3bc797eda45e244d13857ce95f21107007909bfd6a6a73aac0e", func := "straightedge/straightedgelaw03.UnipolyDerives", spec := "unipolyDerives", inPlace := ["internal/abi.NoEscape"], unfollowed := true, recurses := true, named := ["internal/strconv.uint64pow10", "math/bits.deBruijn32tab", "math/bits.deBruijn64tab"], apart := false, laid := [("math/bits.deBruijn32tab", laid_math_bits_deBruijn32tab), ("math/bits.deBruijn64tab", laid_math_bits_deBruijn64tab), ("internal/strconv.uint64pow10", laid_internal_strconv_uint64pow10)] }
def UnipolyDerivesSaid : Prop := unipolyDerivesRow.holds Tryz.pinned (OpenSpec.ofChange unipolyDerivesSpec)

/-- ITS FALSE NEIGHBOUR: 'it returns false'. Refute it at one input. -/
def unipolyDerivesWrong : ChangeSpec := { name := "unipolyDerives", fn := fun _ => fun
  | [d1, d2] => { results := [.lit (.bool false)], args := [d1, d2] }
  | _ => none }
def UnipolyDerivesWrongFalsely : Prop := unipolyDerivesRow.holds Tryz.pinned (OpenSpec.ofChange unipolyDerivesWrong)

/-- 'straightedgelaw03.UnipolyMatchesReference': WHATEVER THE INPUT: true; the input reads as it did. -/
def unipolyMatchesReferenceSpec : ChangeSpec := { name := "unipolyMatchesReference", fn := fun _ => fun
  | [d1, d2, d3, d4, d5, d6] => { results := [.lit (.bool true)], args := [d1, d2, d3, d4, d5, d6] }
  | _ => none }
def unipolyMatchesReferenceRow : OpenClaim := { program := "ytpjjbhhoagocjaagreatdoor", sum := "c62469746aa5e3bc797eda45e244d13857ce95f21107007909bfd6a6a73aac0e", func := "straightedge/straightedgelaw03.UnipolyMatchesReference", spec := "unipolyMatchesReference", inPlace := ["internal/abi.NoEscape"], unfollowed := true, recurses := true, named := ["internal/strconv.uint64pow10", "math/bits.deBruijn32tab", "math/bits.deBruijn64tab"], apart := false, laid := [("math/bits.deBruijn32tab", laid_math_bits_deBruijn32tab), ("math/bits.deBruijn64tab", laid_math_bits_deBruijn64tab), ("internal/strconv.uint64pow10", laid_internal_strconv_uint64pow10)] }
def UnipolyMatchesReferenceSaid : Prop := unipolyMatchesReferenceRow.holds Tryz.pinned (OpenSpec.ofChange unipolyMatchesReferenceSpec)

/-- ITS FALSE NEIGHBOUR: 'it returns false'. Refute it at one input. -/
def unipolyMatchesReferenceWrong : ChangeSpec := { name := "unipolyMatchesReference", fn := fun _ => fun
  | [d1, d2, d3, d4, d5, d6] => { results := [.lit (.bool false)], args := [d1, d2, d3, d4, d5, d6] }
  | _ => none }
def UnipolyMatchesReferenceWrongFalsely : Prop := unipolyMatchesReferenceRow.holds Tryz.pinned (OpenSpec.ofChange unipolyMatchesReferenceWrong)

/- THE SECOND FORM. 'bulk': how many values and letters a reading holds, each counted each time it is reached (what is shared counts as often as it is met; a slice's spare places count too). A statement '..UptoSaid' is the law's where the arguments, and the package variables that the reading takes, are together of bulk at most 1048576: NARROWER than '..Said'. Prove '..Said' where nothing that the law and all that it calls make is longer than what came in: it says more and counts as full. Else prove '..UptoSaid'. A law counts once. -/
mutual
def uptoBulk {H : Type} : DataW H → Nat
  | .lit (.string bytes) => bytes.length + 1
  | .lit _ => 1
  | .nil => 1
  | .ptr d => uptoBulk d + 1
  | .slice elems spare => uptoBulkAll elems + uptoBulkAll spare + 1
  | .agg parts => uptoBulkAll parts + 1
  | .iface _ d => uptoBulk d + 1
  | .map entries => uptoBulkEntries entries + 1
  | .held _ => 1
def uptoBulkAll {H : Type} : List (DataW H) → Nat
  | [] => 0
  | d :: r => uptoBulk d + uptoBulkAll r
def uptoBulkEntries {H : Type} : List (Lit × DataW H) → Nat
  | [] => 0
  | x :: r => uptoBulkEntry x + uptoBulkEntries r
def uptoBulkEntry {H : Type} : Lit × DataW H → Nat
  | (.string bytes, d) => bytes.length + uptoBulk d + 1
  | (_, d) => uptoBulk d + 1
 end
def uptoSmall : (H : Type) → List (DataW H) → Bool := fun _ ds => decide (uptoBulkAll ds ≤ 1048576)
def OpenSpec.upto (s : _root_.Go.ChangeSpec) : _root_.Go.OpenSpec := { _root_.Go.OpenSpec.ofChange s with cond := some uptoSmall }

/-- 'straightedgelaw03.UnipolyDivisors', WHERE WHAT IT READS IS OF BULK AT MOST 1048576: true; the input reads as it did. -/
def unipolyDivisorsUptoRow : OpenClaim := { program := "ytpjjbhhoagocjaagreatdoor", sum := "c62469746aa5e3bc797eda45e244d13857ce95f21107007909bfd6a6a73aac0e", func := "straightedge/straightedgelaw03.UnipolyDivisors", spec := "unipolyDivisors", inPlace := ["internal/abi.NoEscape"], unfollowed := true, recurses := true, named := ["internal/strconv.uint64pow10", "math/bits.deBruijn32tab", "math/bits.deBruijn64tab"], apart := false, laid := [("math/bits.deBruijn32tab", laid_math_bits_deBruijn32tab), ("math/bits.deBruijn64tab", laid_math_bits_deBruijn64tab), ("internal/strconv.uint64pow10", laid_internal_strconv_uint64pow10)], narrowed := true }
def UnipolyDivisorsUptoSaid : Prop := unipolyDivisorsUptoRow.holds Tryz.pinned (OpenSpec.upto unipolyDivisorsSpec)

/-- 'straightedgelaw03.UnipolyResultants', WHERE WHAT IT READS IS OF BULK AT MOST 1048576: true; the input reads as it did. -/
def unipolyResultantsUptoRow : OpenClaim := { program := "ytpjjbhhoagocjaagreatdoor", sum := "c62469746aa5e3bc797eda45e244d13857ce95f21107007909bfd6a6a73aac0e", func := "straightedge/straightedgelaw03.UnipolyResultants", spec := "unipolyResultants", inPlace := ["internal/abi.NoEscape"], unfollowed := true, recurses := true, named := ["internal/strconv.uint64pow10", "math/bits.deBruijn32tab", "math/bits.deBruijn64tab"], apart := false, laid := [("math/bits.deBruijn32tab", laid_math_bits_deBruijn32tab), ("math/bits.deBruijn64tab", laid_math_bits_deBruijn64tab), ("internal/strconv.uint64pow10", laid_internal_strconv_uint64pow10)], narrowed := true }
def UnipolyResultantsUptoSaid : Prop := unipolyResultantsUptoRow.holds Tryz.pinned (OpenSpec.upto unipolyResultantsSpec)

/-- 'straightedgelaw03.UnipolyOverIntegers', WHERE WHAT IT READS IS OF BULK AT MOST 1048576: true; the input reads as it did. -/
def unipolyOverIntegersUptoRow : OpenClaim := { program := "ytpjjbhhoagocjaagreatdoor", sum := "c62469746aa5e3bc797eda45e244d13857ce95f21107007909bfd6a6a73aac0e", func := "straightedge/straightedgelaw03.UnipolyOverIntegers", spec := "unipolyOverIntegers", inPlace := ["internal/abi.NoEscape"], unfollowed := true, recurses := true, named := ["internal/strconv.uint64pow10", "math/bits.deBruijn32tab", "math/bits.deBruijn64tab"], apart := false, laid := [("math/bits.deBruijn32tab", laid_math_bits_deBruijn32tab), ("math/bits.deBruijn64tab", laid_math_bits_deBruijn64tab), ("internal/strconv.uint64pow10", laid_internal_strconv_uint64pow10)], narrowed := true }
def UnipolyOverIntegersUptoSaid : Prop := unipolyOverIntegersUptoRow.holds Tryz.pinned (OpenSpec.upto unipolyOverIntegersSpec)

/-- 'straightedgelaw03.UnipolyDivision', WHERE WHAT IT READS IS OF BULK AT MOST 1048576: true; the input reads as it did. -/
def unipolyDivisionUptoRow : OpenClaim := { program := "ytpjjbhhoagocjaagreatdoor", sum := "c62469746aa5e3bc797eda45e244d13857ce95f21107007909bfd6a6a73aac0e", func := "straightedge/straightedgelaw03.UnipolyDivision", spec := "unipolyDivision", inPlace := ["internal/abi.NoEscape"], unfollowed := true, recurses := true, named := ["internal/strconv.uint64pow10", "math/bits.deBruijn32tab", "math/bits.deBruijn64tab"], apart := false, laid := [("math/bits.deBruijn32tab", laid_math_bits_deBruijn32tab), ("math/bits.deBruijn64tab", laid_math_bits_deBruijn64tab), ("internal/strconv.uint64pow10", laid_internal_strconv_uint64pow10)], narrowed := true }
def UnipolyDivisionUptoSaid : Prop := unipolyDivisionUptoRow.holds Tryz.pinned (OpenSpec.upto unipolyDivisionSpec)

/-- 'straightedgelaw03.UnipolyLimits', WHERE WHAT IT READS IS OF BULK AT MOST 1048576: true; the input reads as it did. -/
def unipolyLimitsUptoRow : OpenClaim := { program := "ytpjjbhhoagocjaagreatdoor", sum := "c62469746aa5e3bc797eda45e244d13857ce95f21107007909bfd6a6a73aac0e", func := "straightedge/straightedgelaw03.UnipolyLimits", spec := "unipolyLimits", inPlace := ["internal/abi.NoEscape"], unfollowed := true, recurses := true, named := ["internal/strconv.uint64pow10", "math/bits.deBruijn32tab", "math/bits.deBruijn64tab"], apart := false, laid := [("math/bits.deBruijn32tab", laid_math_bits_deBruijn32tab), ("math/bits.deBruijn64tab", laid_math_bits_deBruijn64tab), ("internal/strconv.uint64pow10", laid_internal_strconv_uint64pow10)], narrowed := true }
def UnipolyLimitsUptoSaid : Prop := unipolyLimitsUptoRow.holds Tryz.pinned (OpenSpec.upto unipolyLimitsSpec)

/-- 'straightedgelaw03.UnipolySquarefree', WHERE WHAT IT READS IS OF BULK AT MOST 1048576: true; the input reads as it did. -/
def unipolySquarefreeUptoRow : OpenClaim := { program := "ytpjjbhhoagocjaagreatdoor", sum := "c62469746aa5e3bc797eda45e244d13857ce95f21107007909bfd6a6a73aac0e", func := "straightedge/straightedgelaw03.UnipolySquarefree", spec := "unipolySquarefree", inPlace := ["internal/abi.NoEscape"], unfollowed := true, recurses := true, named := ["internal/strconv.uint64pow10", "math/bits.deBruijn32tab", "math/bits.deBruijn64tab"], apart := false, laid := [("math/bits.deBruijn32tab", laid_math_bits_deBruijn32tab), ("math/bits.deBruijn64tab", laid_math_bits_deBruijn64tab), ("internal/strconv.uint64pow10", laid_internal_strconv_uint64pow10)], narrowed := true }
def UnipolySquarefreeUptoSaid : Prop := unipolySquarefreeUptoRow.holds Tryz.pinned (OpenSpec.upto unipolySquarefreeSpec)

/-- 'straightedgelaw03.UnipolyRing', WHERE WHAT IT READS IS OF BULK AT MOST 1048576: true; the input reads as it did. -/
def unipolyRingUptoRow : OpenClaim := { program := "ytpjjbhhoagocjaagreatdoor", sum := "c62469746aa5e3bc797eda45e244d13857ce95f21107007909bfd6a6a73aac0e", func := "straightedge/straightedgelaw03.UnipolyRing", spec := "unipolyRing", inPlace := ["internal/abi.NoEscape"], unfollowed := true, recurses := true, named := ["internal/strconv.uint64pow10", "math/bits.deBruijn32tab", "math/bits.deBruijn64tab"], apart := false, laid := [("math/bits.deBruijn32tab", laid_math_bits_deBruijn32tab), ("math/bits.deBruijn64tab", laid_math_bits_deBruijn64tab), ("internal/strconv.uint64pow10", laid_internal_strconv_uint64pow10)], narrowed := true }
def UnipolyRingUptoSaid : Prop := unipolyRingUptoRow.holds Tryz.pinned (OpenSpec.upto unipolyRingSpec)

/-- 'straightedgelaw03.UnipolyGreatNumbers', WHERE WHAT IT READS IS OF BULK AT MOST 1048576: true; the input reads as it did. -/
def unipolyGreatNumbersUptoRow : OpenClaim := { program := "ytpjjbhhoagocjaagreatdoor", sum := "c62469746aa5e3bc797eda45e244d13857ce95f21107007909bfd6a6a73aac0e", func := "straightedge/straightedgelaw03.UnipolyGreatNumbers", spec := "unipolyGreatNumbers", inPlace := ["internal/abi.NoEscape"], unfollowed := true, recurses := true, named := ["internal/strconv.uint64pow10", "math/bits.deBruijn32tab", "math/bits.deBruijn64tab"], apart := false, laid := [("math/bits.deBruijn32tab", laid_math_bits_deBruijn32tab), ("math/bits.deBruijn64tab", laid_math_bits_deBruijn64tab), ("internal/strconv.uint64pow10", laid_internal_strconv_uint64pow10)], narrowed := true }
def UnipolyGreatNumbersUptoSaid : Prop := unipolyGreatNumbersUptoRow.holds Tryz.pinned (OpenSpec.upto unipolyGreatNumbersSpec)

/-- 'straightedgelaw03.UnipolyEvaluates', WHERE WHAT IT READS IS OF BULK AT MOST 1048576: true; the input reads as it did. -/
def unipolyEvaluatesUptoRow : OpenClaim := { program := "ytpjjbhhoagocjaagreatdoor", sum := "c62469746aa5e3bc797eda45e244d13857ce95f21107007909bfd6a6a73aac0e", func := "straightedge/straightedgelaw03.UnipolyEvaluates", spec := "unipolyEvaluates", inPlace := ["internal/abi.NoEscape"], unfollowed := true, recurses := true, named := ["internal/strconv.uint64pow10", "math/bits.deBruijn32tab", "math/bits.deBruijn64tab"], apart := false, laid := [("math/bits.deBruijn32tab", laid_math_bits_deBruijn32tab), ("math/bits.deBruijn64tab", laid_math_bits_deBruijn64tab), ("internal/strconv.uint64pow10", laid_internal_strconv_uint64pow10)], narrowed := true }
def UnipolyEvaluatesUptoSaid : Prop := unipolyEvaluatesUptoRow.holds Tryz.pinned (OpenSpec.upto unipolyEvaluatesSpec)

/-- 'straightedgelaw03.UnipolyDerives', WHERE WHAT IT READS IS OF BULK AT MOST 1048576: true; the input reads as it did. -/
def unipolyDerivesUptoRow : OpenClaim := { program := "ytpjjbhhoagocjaagreatdoor", sum := "c62469746aa5e3bc797eda45e244d13857ce95f21107007909bfd6a6a73aac0e", func := "straightedge/straightedgelaw03.UnipolyDerives", spec := "unipolyDerives", inPlace := ["internal/abi.NoEscape"], unfollowed := true, recurses := true, named := ["internal/strconv.uint64pow10", "math/bits.deBruijn32tab", "math/bits.deBruijn64tab"], apart := false, laid := [("math/bits.deBruijn32tab", laid_math_bits_deBruijn32tab), ("math/bits.deBruijn64tab", laid_math_bits_deBruijn64tab), ("internal/strconv.uint64pow10", laid_internal_strconv_uint64pow10)], narrowed := true }
def UnipolyDerivesUptoSaid : Prop := unipolyDerivesUptoRow.holds Tryz.pinned (OpenSpec.upto unipolyDerivesSpec)

/-- 'straightedgelaw03.UnipolyMatchesReference', WHERE WHAT IT READS IS OF BULK AT MOST 1048576: true; the input reads as it did. -/
def unipolyMatchesReferenceUptoRow : OpenClaim := { program := "ytpjjbhhoagocjaagreatdoor", sum := "c62469746aa5e3bc797eda45e244d13857ce95f21107007909bfd6a6a73aac0e", func := "straightedge/straightedgelaw03.UnipolyMatchesReference", spec := "unipolyMatchesReference", inPlace := ["internal/abi.NoEscape"], unfollowed := true, recurses := true, named := ["internal/strconv.uint64pow10", "math/bits.deBruijn32tab", "math/bits.deBruijn64tab"], apart := false, laid := [("math/bits.deBruijn32tab", laid_math_bits_deBruijn32tab), ("math/bits.deBruijn64tab", laid_math_bits_deBruijn64tab), ("internal/strconv.uint64pow10", laid_internal_strconv_uint64pow10)], narrowed := true }
def UnipolyMatchesReferenceUptoSaid : Prop := unipolyMatchesReferenceUptoRow.holds Tryz.pinned (OpenSpec.upto unipolyMatchesReferenceSpec)

end Rows
end Go.Proofs.YtpjjbhhoagocjaaGreatDoor
