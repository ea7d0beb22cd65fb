/-
  No cell of these rows narrows 'for every input' (looked for: loops, veiled, ifaces, maps, wideKeys, modest, calm, conditions, laid).
  DERIVED. THE GIVEN ROWS OF THIS SEAT. 8 by the template 'for every input the law returns true; each argument reads behind the call as it read before'; 0 by the template 'total and deterministic' (their statements: YtbcgkonhkoopnaaGreatTotals.lean).
  GIVEN WITH THE SEED: the statements are not yours to turn. If you find one false, say at which input.
  Laid BY PROGRAM, IN A SANDBOX (cutbox-rows.mjs): the forced cells as the released guide's own fill.sh prints them over the translation ae7f728ac57fca9a… (all of the seat's roots in one cut). By AI agents, Wed Nov 11 2026. No macro, syntax, notation, axiom, sorry.
-/
import Derived.Test.YtbcgkonhkoopnaaGreatChecked
import GoSem.Claim
import GoSem.ClaimJoined
import GoSem.ClaimMapViews
import Derived.JoinedTies
import Derived.KernelRfl
namespace Go.Proofs.YtbcgkonhkoopnaaGreat
/- THE CELL 'sum', in the pinned program and in every row, IS THE sha256 OF THE DUMP (.gsa) THAT YtbcgkonhkoopnaaGreatProg.lean LOADS. Nothing in Lean hashes anything: it is a label: what it is worth is what the hold of that sum in a sandbox is worth. -/
noncomputable def Tryz.pinned : Pinned := { name := "ytbcgkonhkoopnaagreat", sum := "ae7f728ac57fca9a699520028536b3577d49665695fc13bae80161f562d9f574", checked := Tryz.checked }
namespace Rows
def none {H : Type} : Left H := { results := [], args := [] }

/-- 'straightedgelaw16.BoxReal': WHATEVER THE INPUT: true; the input reads as it did. -/
def boxRealSpec : ChangeSpec := { name := "boxReal", fn := fun _ => fun
  | [d1, d2] => { results := [.lit (.bool true)], args := [d1, d2] }
  | _ => none }
def boxRealRow : OpenClaim := { program := "ytbcgkonhkoopnaagreat", sum := "ae7f728ac57fca9a699520028536b3577d49665695fc13bae80161f562d9f574", func := "straightedge/straightedgelaw16.BoxReal", spec := "boxReal", inPlace := ["math/bits.Add64"], unfollowed := true, recurses := true, named := ["math/bits.divideError", "math/bits.overflowError"], apart := false }
def BoxRealSaid : Prop := boxRealRow.holds Tryz.pinned (OpenSpec.ofChange boxRealSpec)

/-- ITS FALSE NEIGHBOUR: 'it returns false'. Refute it at one input. -/
def boxRealWrong : ChangeSpec := { name := "boxReal", fn := fun _ => fun
  | [d1, d2] => { results := [.lit (.bool false)], args := [d1, d2] }
  | _ => none }
def BoxRealWrongFalsely : Prop := boxRealRow.holds Tryz.pinned (OpenSpec.ofChange boxRealWrong)

/-- 'straightedgelaw16.BoxRoots': WHATEVER THE INPUT: true; the input reads as it did. -/
def boxRootsSpec : ChangeSpec := { name := "boxRoots", fn := fun _ => fun
  | [d1, d2, d3] => { results := [.lit (.bool true)], args := [d1, d2, d3] }
  | _ => none }
def boxRootsRow : OpenClaim := { program := "ytbcgkonhkoopnaagreat", sum := "ae7f728ac57fca9a699520028536b3577d49665695fc13bae80161f562d9f574", func := "straightedge/straightedgelaw16.BoxRoots", spec := "boxRoots", inPlace := ["math/bits.Add64"], unfollowed := true, recurses := true, named := ["math/bits.divideError", "math/bits.overflowError"], apart := false }
def BoxRootsSaid : Prop := boxRootsRow.holds Tryz.pinned (OpenSpec.ofChange boxRootsSpec)

/-- ITS FALSE NEIGHBOUR: 'it returns false'. Refute it at one input. -/
def boxRootsWrong : ChangeSpec := { name := "boxRoots", fn := fun _ => fun
  | [d1, d2, d3] => { results := [.lit (.bool false)], args := [d1, d2, d3] }
  | _ => none }
def BoxRootsWrongFalsely : Prop := boxRootsRow.holds Tryz.pinned (OpenSpec.ofChange boxRootsWrong)

/-- 'straightedgelaw16.BoxMatchesReference': WHATEVER THE INPUT: true; the input reads as it did. -/
def boxMatchesReferenceSpec : ChangeSpec := { name := "boxMatchesReference", fn := fun _ => fun
  | [d1, d2, d3, d4, d5, d6] => { results := [.lit (.bool true)], args := [d1, d2, d3, d4, d5, d6] }
  | _ => none }
def boxMatchesReferenceRow : OpenClaim := { program := "ytbcgkonhkoopnaagreat", sum := "ae7f728ac57fca9a699520028536b3577d49665695fc13bae80161f562d9f574", func := "straightedge/straightedgelaw16.BoxMatchesReference", spec := "boxMatchesReference", inPlace := ["math/bits.Add64"], unfollowed := true, recurses := true, named := ["math/bits.divideError", "math/bits.overflowError"], apart := false }
def BoxMatchesReferenceSaid : Prop := boxMatchesReferenceRow.holds Tryz.pinned (OpenSpec.ofChange boxMatchesReferenceSpec)

/-- ITS FALSE NEIGHBOUR: 'it returns false'. Refute it at one input. -/
def boxMatchesReferenceWrong : ChangeSpec := { name := "boxMatchesReference", fn := fun _ => fun
  | [d1, d2, d3, d4, d5, d6] => { results := [.lit (.bool false)], args := [d1, d2, d3, d4, d5, d6] }
  | _ => none }
def BoxMatchesReferenceWrongFalsely : Prop := boxMatchesReferenceRow.holds Tryz.pinned (OpenSpec.ofChange boxMatchesReferenceWrong)

/-- 'straightedgelaw16.BoxIsotony': WHATEVER THE INPUT: true; the input reads as it did. -/
def boxIsotonySpec : ChangeSpec := { name := "boxIsotony", fn := fun _ => fun
  | [d1, d2, d3, d4, d5, d6] => { results := [.lit (.bool true)], args := [d1, d2, d3, d4, d5, d6] }
  | _ => none }
def boxIsotonyRow : OpenClaim := { program := "ytbcgkonhkoopnaagreat", sum := "ae7f728ac57fca9a699520028536b3577d49665695fc13bae80161f562d9f574", func := "straightedge/straightedgelaw16.BoxIsotony", spec := "boxIsotony", inPlace := ["math/bits.Add64"], unfollowed := true, recurses := true, named := ["math/bits.divideError", "math/bits.overflowError"], apart := false }
def BoxIsotonySaid : Prop := boxIsotonyRow.holds Tryz.pinned (OpenSpec.ofChange boxIsotonySpec)

/-- ITS FALSE NEIGHBOUR: 'it returns false'. Refute it at one input. -/
def boxIsotonyWrong : ChangeSpec := { name := "boxIsotony", fn := fun _ => fun
  | [d1, d2, d3, d4, d5, d6] => { results := [.lit (.bool false)], args := [d1, d2, d3, d4, d5, d6] }
  | _ => none }
def BoxIsotonyWrongFalsely : Prop := boxIsotonyRow.holds Tryz.pinned (OpenSpec.ofChange boxIsotonyWrong)

/-- 'straightedgelaw16.BoxOrder': WHATEVER THE INPUT: true; the input reads as it did. -/
def boxOrderSpec : ChangeSpec := { name := "boxOrder", fn := fun _ => fun
  | [d1, d2, d3, d4] => { results := [.lit (.bool true)], args := [d1, d2, d3, d4] }
  | _ => none }
def boxOrderRow : OpenClaim := { program := "ytbcgkonhkoopnaagreat", sum := "ae7f728ac57fca9a699520028536b3577d49665695fc13bae80161f562d9f574", func := "straightedge/straightedgelaw16.BoxOrder", spec := "boxOrder", inPlace := ["math/bits.Add64"], unfollowed := true, recurses := true, named := ["math/bits.divideError", "math/bits.overflowError"], apart := false }
def BoxOrderSaid : Prop := boxOrderRow.holds Tryz.pinned (OpenSpec.ofChange boxOrderSpec)

/-- ITS FALSE NEIGHBOUR: 'it returns false'. Refute it at one input. -/
def boxOrderWrong : ChangeSpec := { name := "boxOrder", fn := fun _ => fun
  | [d1, d2, d3, d4] => { results := [.lit (.bool false)], args := [d1, d2, d3, d4] }
  | _ => none }
def BoxOrderWrongFalsely : Prop := boxOrderRow.holds Tryz.pinned (OpenSpec.ofChange boxOrderWrong)

/-- 'straightedgelaw16.BoxIsqrt': WHATEVER THE INPUT: true; the input reads as it did. -/
def boxIsqrtSpec : ChangeSpec := { name := "boxIsqrt", fn := fun _ => fun
  | [d] => { results := [.lit (.bool true)], args := [d] }
  | _ => none }
def boxIsqrtRow : OpenClaim := { program := "ytbcgkonhkoopnaagreat", sum := "ae7f728ac57fca9a699520028536b3577d49665695fc13bae80161f562d9f574", func := "straightedge/straightedgelaw16.BoxIsqrt", spec := "boxIsqrt", inPlace := ["math/bits.Add64"], unfollowed := true, recurses := true, named := ["math/bits.divideError", "math/bits.overflowError"], apart := false }
def BoxIsqrtSaid : Prop := boxIsqrtRow.holds Tryz.pinned (OpenSpec.ofChange boxIsqrtSpec)

/-- ITS FALSE NEIGHBOUR: 'it returns false'. Refute it at one input. -/
def boxIsqrtWrong : ChangeSpec := { name := "boxIsqrt", fn := fun _ => fun
  | [d] => { results := [.lit (.bool false)], args := [d] }
  | _ => none }
def BoxIsqrtWrongFalsely : Prop := boxIsqrtRow.holds Tryz.pinned (OpenSpec.ofChange boxIsqrtWrong)

/-- 'straightedgelaw16.BoxExact': WHATEVER THE INPUT: true; the input reads as it did. -/
def boxExactSpec : ChangeSpec := { name := "boxExact", fn := fun _ => fun
  | [d1, d2, d3, d4] => { results := [.lit (.bool true)], args := [d1, d2, d3, d4] }
  | _ => none }
def boxExactRow : OpenClaim := { program := "ytbcgkonhkoopnaagreat", sum := "ae7f728ac57fca9a699520028536b3577d49665695fc13bae80161f562d9f574", func := "straightedge/straightedgelaw16.BoxExact", spec := "boxExact", inPlace := ["math/bits.Add64"], unfollowed := true, recurses := true, named := ["math/bits.divideError", "math/bits.overflowError"], apart := false }
def BoxExactSaid : Prop := boxExactRow.holds Tryz.pinned (OpenSpec.ofChange boxExactSpec)

/-- ITS FALSE NEIGHBOUR: 'it returns false'. Refute it at one input. -/
def boxExactWrong : ChangeSpec := { name := "boxExact", fn := fun _ => fun
  | [d1, d2, d3, d4] => { results := [.lit (.bool false)], args := [d1, d2, d3, d4] }
  | _ => none }
def BoxExactWrongFalsely : Prop := boxExactRow.holds Tryz.pinned (OpenSpec.ofChange boxExactWrong)

/-- 'straightedgelaw16.BoxIncludes': WHATEVER THE INPUT: true; the input reads as it did. -/
def boxIncludesSpec : ChangeSpec := { name := "boxIncludes", fn := fun _ => fun
  | [d1, d2, d3, d4, d5, d6] => { results := [.lit (.bool true)], args := [d1, d2, d3, d4, d5, d6] }
  | _ => none }
def boxIncludesRow : OpenClaim := { program := "ytbcgkonhkoopnaagreat", sum := "ae7f728ac57fca9a699520028536b3577d49665695fc13bae80161f562d9f574", func := "straightedge/straightedgelaw16.BoxIncludes", spec := "boxIncludes", inPlace := ["math/bits.Add64"], unfollowed := true, recurses := true, named := ["math/bits.divideError", "math/bits.overflowError"], apart := false }
def BoxIncludesSaid : Prop := boxIncludesRow.holds Tryz.pinned (OpenSpec.ofChange boxIncludesSpec)

/-- ITS FALSE NEIGHBOUR: 'it returns false'. Refute it at one input. -/
def boxIncludesWrong : ChangeSpec := { name := "boxIncludes", fn := fun _ => fun
  | [d1, d2, d3, d4, d5, d6] => { results := [.lit (.bool false)], args := [d1, d2, d3, d4, d5, d6] }
  | _ => none }
def BoxIncludesWrongFalsely : Prop := boxIncludesRow.holds Tryz.pinned (OpenSpec.ofChange boxIncludesWrong)

/- THE SECOND FORM. 'bulk': how many values and letters a reading holds, each counted each time it is reached (what is shared counts as often as it is met; a slice's spare places count too). A statement '..UptoSaid' is the law's where the arguments, and the package variables that the reading takes, are together of bulk at most 1048576: NARROWER than '..Said'. Prove '..Said' where nothing that the law and all that it calls make is longer than what came in: it says more and counts as full. Else prove '..UptoSaid'. A law counts once. -/
mutual
def uptoBulk {H : Type} : DataW H → Nat
  | .lit (.string bytes) => bytes.length + 1
  | .lit _ => 1
  | .nil => 1
  | .ptr d => uptoBulk d + 1
  | .slice elems spare => uptoBulkAll elems + uptoBulkAll spare + 1
  | .agg parts => uptoBulkAll parts + 1
  | .iface _ d => uptoBulk d + 1
  | .map entries => uptoBulkEntries entries + 1
  | .held _ => 1
def uptoBulkAll {H : Type} : List (DataW H) → Nat
  | [] => 0
  | d :: r => uptoBulk d + uptoBulkAll r
def uptoBulkEntries {H : Type} : List (Lit × DataW H) → Nat
  | [] => 0
  | x :: r => uptoBulkEntry x + uptoBulkEntries r
def uptoBulkEntry {H : Type} : Lit × DataW H → Nat
  | (.string bytes, d) => bytes.length + uptoBulk d + 1
  | (_, d) => uptoBulk d + 1
 end
def uptoSmall : (H : Type) → List (DataW H) → Bool := fun _ ds => decide (uptoBulkAll ds ≤ 1048576)
def OpenSpec.upto (s : _root_.Go.ChangeSpec) : _root_.Go.OpenSpec := { _root_.Go.OpenSpec.ofChange s with cond := some uptoSmall }

/-- 'straightedgelaw16.BoxReal', WHERE WHAT IT READS IS OF BULK AT MOST 1048576: true; the input reads as it did. -/
def boxRealUptoRow : OpenClaim := { program := "ytbcgkonhkoopnaagreat", sum := "ae7f728ac57fca9a699520028536b3577d49665695fc13bae80161f562d9f574", func := "straightedge/straightedgelaw16.BoxReal", spec := "boxReal", inPlace := ["math/bits.Add64"], unfollowed := true, recurses := true, named := ["math/bits.divideError", "math/bits.overflowError"], apart := false, narrowed := true }
def BoxRealUptoSaid : Prop := boxRealUptoRow.holds Tryz.pinned (OpenSpec.upto boxRealSpec)

/-- 'straightedgelaw16.BoxRoots', WHERE WHAT IT READS IS OF BULK AT MOST 1048576: true; the input reads as it did. -/
def boxRootsUptoRow : OpenClaim := { program := "ytbcgkonhkoopnaagreat", sum := "ae7f728ac57fca9a699520028536b3577d49665695fc13bae80161f562d9f574", func := "straightedge/straightedgelaw16.BoxRoots", spec := "boxRoots", inPlace := ["math/bits.Add64"], unfollowed := true, recurses := true, named := ["math/bits.divideError", "math/bits.overflowError"], apart := false, narrowed := true }
def BoxRootsUptoSaid : Prop := boxRootsUptoRow.holds Tryz.pinned (OpenSpec.upto boxRootsSpec)

/-- 'straightedgelaw16.BoxMatchesReference', WHERE WHAT IT READS IS OF BULK AT MOST 1048576: true; the input reads as it did. -/
def boxMatchesReferenceUptoRow : OpenClaim := { program := "ytbcgkonhkoopnaagreat", sum := "ae7f728ac57fca9a699520028536b3577d49665695fc13bae80161f562d9f574", func := "straightedge/straightedgelaw16.BoxMatchesReference", spec := "boxMatchesReference", inPlace := ["math/bits.Add64"], unfollowed := true, recurses := true, named := ["math/bits.divideError", "math/bits.overflowError"], apart := false, narrowed := true }
def BoxMatchesReferenceUptoSaid : Prop := boxMatchesReferenceUptoRow.holds Tryz.pinned (OpenSpec.upto boxMatchesReferenceSpec)

/-- 'straightedgelaw16.BoxIsotony', WHERE WHAT IT READS IS OF BULK AT MOST 1048576: true; the input reads as it did. -/
def boxIsotonyUptoRow : OpenClaim := { program := "ytbcgkonhkoopnaagreat", sum := "ae7f728ac57fca9a699520028536b3577d49665695fc13bae80161f562d9f574", func := "straightedge/straightedgelaw16.BoxIsotony", spec := "boxIsotony", inPlace := ["math/bits.Add64"], unfollowed := true, recurses := true, named := ["math/bits.divideError", "math/bits.overflowError"], apart := false, narrowed := true }
def BoxIsotonyUptoSaid : Prop := boxIsotonyUptoRow.holds Tryz.pinned (OpenSpec.upto boxIsotonySpec)

/-- 'straightedgelaw16.BoxOrder', WHERE WHAT IT READS IS OF BULK AT MOST 1048576: true; the input reads as it did. -/
def boxOrderUptoRow : OpenClaim := { program := "ytbcgkonhkoopnaagreat", sum := "ae7f728ac57fca9a699520028536b3577d49665695fc13bae80161f562d9f574", func := "straightedge/straightedgelaw16.BoxOrder", spec := "boxOrder", inPlace := ["math/bits.Add64"], unfollowed := true, recurses := true, named := ["math/bits.divideError", "math/bits.overflowError"], apart := false, narrowed := true }
def BoxOrderUptoSaid : Prop := boxOrderUptoRow.holds Tryz.pinned (OpenSpec.upto boxOrderSpec)

/-- 'straightedgelaw16.BoxIsqrt', WHERE WHAT IT READS IS OF BULK AT MOST 1048576: true; the input reads as it did. -/
def boxIsqrtUptoRow : OpenClaim := { program := "ytbcgkonhkoopnaagreat", sum := "ae7f728ac57fca9a699520028536b3577d49665695fc13bae80161f562d9f574", func := "straightedge/straightedgelaw16.BoxIsqrt", spec := "boxIsqrt", inPlace := ["math/bits.Add64"], unfollowed := true, recurses := true, named := ["math/bits.divideError", "math/bits.overflowError"], apart := false, narrowed := true }
def BoxIsqrtUptoSaid : Prop := boxIsqrtUptoRow.holds Tryz.pinned (OpenSpec.upto boxIsqrtSpec)

/-- 'straightedgelaw16.BoxExact', WHERE WHAT IT READS IS OF BULK AT MOST 1048576: true; the input reads as it did. -/
def boxExactUptoRow : OpenClaim := { program := "ytbcgkonhkoopnaagreat", sum := "ae7f728ac57fca9a699520028536b3577d49665695fc13bae80161f562d9f574", func := "straightedge/straightedgelaw16.BoxExact", spec := "boxExact", inPlace := ["math/bits.Add64"], unfollowed := true, recurses := true, named := ["math/bits.divideError", "math/bits.overflowError"], apart := false, narrowed := true }
def BoxExactUptoSaid : Prop := boxExactUptoRow.holds Tryz.pinned (OpenSpec.upto boxExactSpec)

/-- 'straightedgelaw16.BoxIncludes', WHERE WHAT IT READS IS OF BULK AT MOST 1048576: true; the input reads as it did. -/
def boxIncludesUptoRow : OpenClaim := { program := "ytbcgkonhkoopnaagreat", sum := "ae7f728ac57fca9a699520028536b3577d49665695fc13bae80161f562d9f574", func := "straightedge/straightedgelaw16.BoxIncludes", spec := "boxIncludes", inPlace := ["math/bits.Add64"], unfollowed := true, recurses := true, named := ["math/bits.divideError", "math/bits.overflowError"], apart := false, narrowed := true }
def BoxIncludesUptoSaid : Prop := boxIncludesUptoRow.holds Tryz.pinned (OpenSpec.upto boxIncludesSpec)

end Rows
end Go.Proofs.YtbcgkonhkoopnaaGreat
