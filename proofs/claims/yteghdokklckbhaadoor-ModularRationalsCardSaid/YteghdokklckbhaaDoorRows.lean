/-
  NARROWER THAN 'FOR EVERY INPUT', by the rows' own cells (each row's printed sentence says how): ModularPrimes: laid · ModularLifts: laid · ModularKernels: laid · ModularRanks: laid · ModularField: laid · ModularSquares: laid · ModularRationals: laid.
  DERIVED. THE GIVEN ROWS OF THIS SEAT. 7 by the template 'for every input the law returns true; each argument reads behind the call as it read before'; 0 by the template 'total and deterministic' (their statements: YteghdokklckbhaaDoorTotals.lean).
  GIVEN WITH THE SEED: the statements are not yours to turn. If you find one false, say at which input.
  Laid BY PROGRAM, IN A SANDBOX (cutbox-rows.mjs): the forced cells as the released guide's own fill.sh prints them over the translation 489d1ec74f304fe1… (all of the seat's roots in one cut). By AI agents, Wed Nov 11 2026. No macro, syntax, notation, axiom, sorry.
-/
import Derived.Test.YteghdokklckbhaaDoorChecked
import GoSem.Claim
import GoSem.ClaimJoined
import GoSem.ClaimMapViews
import Derived.JoinedTies
import Derived.KernelRfl
namespace Go.Proofs.YteghdokklckbhaaDoor
/- THE CELL 'sum', in the pinned program and in every row, IS THE sha256 OF THE DUMP (.gsa) THAT YteghdokklckbhaaDoorProg.lean LOADS. Nothing in Lean hashes anything: it is a label: what it is worth is what the hold of that sum in a sandbox is worth. -/
noncomputable def Tryd.pinned : Pinned := { name := "yteghdokklckbhaadoor", sum := "489d1ec74f304fe1766310c509dea630606a8fae6b3e4a8ce9de2e560dd7fa59", checked := Tryd.checked }
namespace Rows
def none {H : Type} : Left H := { results := [], args := [] }

/- WHAT THE LISTED PACKAGE-LEVEL VARIABLES READ AS WHEN THE CALL BEGINS. Each datum BY PROGRAM (the guide's laid-datum.mjs) off the statement by which the dump's own 'gosem.cut.vars' lays the variable. In a bare row this is a premise. The card (YteghdokklckbhaaDoorCards.lean) ties it to the program's text. -/
def laid_straightedge_modular_bases {H : Type} : DataW H := .agg [.lit (.int .i64 2), .lit (.int .i64 3), .lit (.int .i64 5), .lit (.int .i64 7)]

/-- 'straightedgelaw06.ModularPrimes': WHATEVER THE INPUT: true; the input reads as it did. -/
def modularPrimesSpec : ChangeSpec := { name := "modularPrimes", fn := fun _ => fun
  | [d1, d2, d3] => { results := [.lit (.bool true)], args := [d1, d2, d3] }
  | _ => none }
def modularPrimesRow : OpenClaim := { program := "yteghdokklckbhaadoor", sum := "489d1ec74f304fe1766310c509dea630606a8fae6b3e4a8ce9de2e560dd7fa59", func := "straightedge/straightedgelaw06.ModularPrimes", spec := "modularPrimes", unfollowed := true, recurses := true, named := ["straightedge/modular.bases"], apart := false, laid := [("straightedge/modular.bases", laid_straightedge_modular_bases)] }
def ModularPrimesSaid : Prop := modularPrimesRow.holds Tryd.pinned (OpenSpec.ofChange modularPrimesSpec)

/-- ITS FALSE NEIGHBOUR: 'it returns false'. Refute it at one input. -/
def modularPrimesWrong : ChangeSpec := { name := "modularPrimes", fn := fun _ => fun
  | [d1, d2, d3] => { results := [.lit (.bool false)], args := [d1, d2, d3] }
  | _ => none }
def ModularPrimesWrongFalsely : Prop := modularPrimesRow.holds Tryd.pinned (OpenSpec.ofChange modularPrimesWrong)

/-- 'straightedgelaw06.ModularLifts': WHATEVER THE INPUT: true; the input reads as it did. -/
def modularLiftsSpec : ChangeSpec := { name := "modularLifts", fn := fun _ => fun
  | [d1, d2, d3, d4] => { results := [.lit (.bool true)], args := [d1, d2, d3, d4] }
  | _ => none }
def modularLiftsRow : OpenClaim := { program := "yteghdokklckbhaadoor", sum := "489d1ec74f304fe1766310c509dea630606a8fae6b3e4a8ce9de2e560dd7fa59", func := "straightedge/straightedgelaw06.ModularLifts", spec := "modularLifts", unfollowed := true, recurses := true, named := ["straightedge/modular.bases"], apart := false, laid := [("straightedge/modular.bases", laid_straightedge_modular_bases)] }
def ModularLiftsSaid : Prop := modularLiftsRow.holds Tryd.pinned (OpenSpec.ofChange modularLiftsSpec)

/-- ITS FALSE NEIGHBOUR: 'it returns false'. Refute it at one input. -/
def modularLiftsWrong : ChangeSpec := { name := "modularLifts", fn := fun _ => fun
  | [d1, d2, d3, d4] => { results := [.lit (.bool false)], args := [d1, d2, d3, d4] }
  | _ => none }
def ModularLiftsWrongFalsely : Prop := modularLiftsRow.holds Tryd.pinned (OpenSpec.ofChange modularLiftsWrong)

/-- 'straightedgelaw06.ModularKernels': WHATEVER THE INPUT: true; the input reads as it did. -/
def modularKernelsSpec : ChangeSpec := { name := "modularKernels", fn := fun _ => fun
  | [d1, d2, d3, d4] => { results := [.lit (.bool true)], args := [d1, d2, d3, d4] }
  | _ => none }
def modularKernelsRow : OpenClaim := { program := "yteghdokklckbhaadoor", sum := "489d1ec74f304fe1766310c509dea630606a8fae6b3e4a8ce9de2e560dd7fa59", func := "straightedge/straightedgelaw06.ModularKernels", spec := "modularKernels", unfollowed := true, recurses := true, named := ["straightedge/modular.bases"], apart := false, laid := [("straightedge/modular.bases", laid_straightedge_modular_bases)] }
def ModularKernelsSaid : Prop := modularKernelsRow.holds Tryd.pinned (OpenSpec.ofChange modularKernelsSpec)

/-- ITS FALSE NEIGHBOUR: 'it returns false'. Refute it at one input. -/
def modularKernelsWrong : ChangeSpec := { name := "modularKernels", fn := fun _ => fun
  | [d1, d2, d3, d4] => { results := [.lit (.bool false)], args := [d1, d2, d3, d4] }
  | _ => none }
def ModularKernelsWrongFalsely : Prop := modularKernelsRow.holds Tryd.pinned (OpenSpec.ofChange modularKernelsWrong)

/-- 'straightedgelaw06.ModularRanks': WHATEVER THE INPUT: true; the input reads as it did. -/
def modularRanksSpec : ChangeSpec := { name := "modularRanks", fn := fun _ => fun
  | [d1, d2, d3, d4, d5, d6, d7] => { results := [.lit (.bool true)], args := [d1, d2, d3, d4, d5, d6, d7] }
  | _ => none }
def modularRanksRow : OpenClaim := { program := "yteghdokklckbhaadoor", sum := "489d1ec74f304fe1766310c509dea630606a8fae6b3e4a8ce9de2e560dd7fa59", func := "straightedge/straightedgelaw06.ModularRanks", spec := "modularRanks", unfollowed := true, recurses := true, named := ["straightedge/modular.bases"], apart := false, laid := [("straightedge/modular.bases", laid_straightedge_modular_bases)] }
def ModularRanksSaid : Prop := modularRanksRow.holds Tryd.pinned (OpenSpec.ofChange modularRanksSpec)

/-- ITS FALSE NEIGHBOUR: 'it returns false'. Refute it at one input. -/
def modularRanksWrong : ChangeSpec := { name := "modularRanks", fn := fun _ => fun
  | [d1, d2, d3, d4, d5, d6, d7] => { results := [.lit (.bool false)], args := [d1, d2, d3, d4, d5, d6, d7] }
  | _ => none }
def ModularRanksWrongFalsely : Prop := modularRanksRow.holds Tryd.pinned (OpenSpec.ofChange modularRanksWrong)

/-- 'straightedgelaw06.ModularField': WHATEVER THE INPUT: true; the input reads as it did. -/
def modularFieldSpec : ChangeSpec := { name := "modularField", fn := fun _ => fun
  | [d1, d2, d3, d4, d5, d6] => { results := [.lit (.bool true)], args := [d1, d2, d3, d4, d5, d6] }
  | _ => none }
def modularFieldRow : OpenClaim := { program := "yteghdokklckbhaadoor", sum := "489d1ec74f304fe1766310c509dea630606a8fae6b3e4a8ce9de2e560dd7fa59", func := "straightedge/straightedgelaw06.ModularField", spec := "modularField", unfollowed := true, recurses := true, named := ["straightedge/modular.bases"], apart := false, laid := [("straightedge/modular.bases", laid_straightedge_modular_bases)] }
def ModularFieldSaid : Prop := modularFieldRow.holds Tryd.pinned (OpenSpec.ofChange modularFieldSpec)

/-- ITS FALSE NEIGHBOUR: 'it returns false'. Refute it at one input. -/
def modularFieldWrong : ChangeSpec := { name := "modularField", fn := fun _ => fun
  | [d1, d2, d3, d4, d5, d6] => { results := [.lit (.bool false)], args := [d1, d2, d3, d4, d5, d6] }
  | _ => none }
def ModularFieldWrongFalsely : Prop := modularFieldRow.holds Tryd.pinned (OpenSpec.ofChange modularFieldWrong)

/-- 'straightedgelaw06.ModularSquares': WHATEVER THE INPUT: true; the input reads as it did. -/
def modularSquaresSpec : ChangeSpec := { name := "modularSquares", fn := fun _ => fun
  | [d1, d2, d3] => { results := [.lit (.bool true)], args := [d1, d2, d3] }
  | _ => none }
def modularSquaresRow : OpenClaim := { program := "yteghdokklckbhaadoor", sum := "489d1ec74f304fe1766310c509dea630606a8fae6b3e4a8ce9de2e560dd7fa59", func := "straightedge/straightedgelaw06.ModularSquares", spec := "modularSquares", unfollowed := true, recurses := true, named := ["straightedge/modular.bases"], apart := false, laid := [("straightedge/modular.bases", laid_straightedge_modular_bases)] }
def ModularSquaresSaid : Prop := modularSquaresRow.holds Tryd.pinned (OpenSpec.ofChange modularSquaresSpec)

/-- ITS FALSE NEIGHBOUR: 'it returns false'. Refute it at one input. -/
def modularSquaresWrong : ChangeSpec := { name := "modularSquares", fn := fun _ => fun
  | [d1, d2, d3] => { results := [.lit (.bool false)], args := [d1, d2, d3] }
  | _ => none }
def ModularSquaresWrongFalsely : Prop := modularSquaresRow.holds Tryd.pinned (OpenSpec.ofChange modularSquaresWrong)

/-- 'straightedgelaw06.ModularRationals': WHATEVER THE INPUT: true; the input reads as it did. -/
def modularRationalsSpec : ChangeSpec := { name := "modularRationals", fn := fun _ => fun
  | [d1, d2, d3, d4, d5] => { results := [.lit (.bool true)], args := [d1, d2, d3, d4, d5] }
  | _ => none }
def modularRationalsRow : OpenClaim := { program := "yteghdokklckbhaadoor", sum := "489d1ec74f304fe1766310c509dea630606a8fae6b3e4a8ce9de2e560dd7fa59", func := "straightedge/straightedgelaw06.ModularRationals", spec := "modularRationals", unfollowed := true, recurses := true, named := ["straightedge/modular.bases"], apart := false, laid := [("straightedge/modular.bases", laid_straightedge_modular_bases)] }
def ModularRationalsSaid : Prop := modularRationalsRow.holds Tryd.pinned (OpenSpec.ofChange modularRationalsSpec)

/-- ITS FALSE NEIGHBOUR: 'it returns false'. Refute it at one input. -/
def modularRationalsWrong : ChangeSpec := { name := "modularRationals", fn := fun _ => fun
  | [d1, d2, d3, d4, d5] => { results := [.lit (.bool false)], args := [d1, d2, d3, d4, d5] }
  | _ => none }
def ModularRationalsWrongFalsely : Prop := modularRationalsRow.holds Tryd.pinned (OpenSpec.ofChange modularRationalsWrong)

/- THE SECOND FORM. 'bulk': how many values and letters a reading holds, each counted each time it is reached (what is shared counts as often as it is met; a slice's spare places count too). A statement '..UptoSaid' is the law's where the arguments, and the package variables that the reading takes, are together of bulk at most 1048576: NARROWER than '..Said'. Prove '..Said' where nothing that the law and all that it calls make is longer than what came in: it says more and counts as full. Else prove '..UptoSaid'. A law counts once. -/
mutual
def uptoBulk {H : Type} : DataW H → Nat
  | .lit (.string bytes) => bytes.length + 1
  | .lit _ => 1
  | .nil => 1
  | .ptr d => uptoBulk d + 1
  | .slice elems spare => uptoBulkAll elems + uptoBulkAll spare + 1
  | .agg parts => uptoBulkAll parts + 1
  | .iface _ d => uptoBulk d + 1
  | .map entries => uptoBulkEntries entries + 1
  | .held _ => 1
def uptoBulkAll {H : Type} : List (DataW H) → Nat
  | [] => 0
  | d :: r => uptoBulk d + uptoBulkAll r
def uptoBulkEntries {H : Type} : List (Lit × DataW H) → Nat
  | [] => 0
  | x :: r => uptoBulkEntry x + uptoBulkEntries r
def uptoBulkEntry {H : Type} : Lit × DataW H → Nat
  | (.string bytes, d) => bytes.length + uptoBulk d + 1
  | (_, d) => uptoBulk d + 1
 end
def uptoSmall : (H : Type) → List (DataW H) → Bool := fun _ ds => decide (uptoBulkAll ds ≤ 1048576)
def OpenSpec.upto (s : _root_.Go.ChangeSpec) : _root_.Go.OpenSpec := { _root_.Go.OpenSpec.ofChange s with cond := some uptoSmall }

/-- 'straightedgelaw06.ModularPrimes', WHERE WHAT IT READS IS OF BULK AT MOST 1048576: true; the input reads as it did. -/
def modularPrimesUptoRow : OpenClaim := { program := "yteghdokklckbhaadoor", sum := "489d1ec74f304fe1766310c509dea630606a8fae6b3e4a8ce9de2e560dd7fa59", func := "straightedge/straightedgelaw06.ModularPrimes", spec := "modularPrimes", unfollowed := true, recurses := true, named := ["straightedge/modular.bases"], apart := false, laid := [("straightedge/modular.bases", laid_straightedge_modular_bases)], narrowed := true }
def ModularPrimesUptoSaid : Prop := modularPrimesUptoRow.holds Tryd.pinned (OpenSpec.upto modularPrimesSpec)

/-- 'straightedgelaw06.ModularLifts', WHERE WHAT IT READS IS OF BULK AT MOST 1048576: true; the input reads as it did. -/
def modularLiftsUptoRow : OpenClaim := { program := "yteghdokklckbhaadoor", sum := "489d1ec74f304fe1766310c509dea630606a8fae6b3e4a8ce9de2e560dd7fa59", func := "straightedge/straightedgelaw06.ModularLifts", spec := "modularLifts", unfollowed := true, recurses := true, named := ["straightedge/modular.bases"], apart := false, laid := [("straightedge/modular.bases", laid_straightedge_modular_bases)], narrowed := true }
def ModularLiftsUptoSaid : Prop := modularLiftsUptoRow.holds Tryd.pinned (OpenSpec.upto modularLiftsSpec)

/-- 'straightedgelaw06.ModularKernels', WHERE WHAT IT READS IS OF BULK AT MOST 1048576: true; the input reads as it did. -/
def modularKernelsUptoRow : OpenClaim := { program := "yteghdokklckbhaadoor", sum := "489d1ec74f304fe1766310c509dea630606a8fae6b3e4a8ce9de2e560dd7fa59", func := "straightedge/straightedgelaw06.ModularKernels", spec := "modularKernels", unfollowed := true, recurses := true, named := ["straightedge/modular.bases"], apart := false, laid := [("straightedge/modular.bases", laid_straightedge_modular_bases)], narrowed := true }
def ModularKernelsUptoSaid : Prop := modularKernelsUptoRow.holds Tryd.pinned (OpenSpec.upto modularKernelsSpec)

/-- 'straightedgelaw06.ModularRanks', WHERE WHAT IT READS IS OF BULK AT MOST 1048576: true; the input reads as it did. -/
def modularRanksUptoRow : OpenClaim := { program := "yteghdokklckbhaadoor", sum := "489d1ec74f304fe1766310c509dea630606a8fae6b3e4a8ce9de2e560dd7fa59", func := "straightedge/straightedgelaw06.ModularRanks", spec := "modularRanks", unfollowed := true, recurses := true, named := ["straightedge/modular.bases"], apart := false, laid := [("straightedge/modular.bases", laid_straightedge_modular_bases)], narrowed := true }
def ModularRanksUptoSaid : Prop := modularRanksUptoRow.holds Tryd.pinned (OpenSpec.upto modularRanksSpec)

/-- 'straightedgelaw06.ModularField', WHERE WHAT IT READS IS OF BULK AT MOST 1048576: true; the input reads as it did. -/
def modularFieldUptoRow : OpenClaim := { program := "yteghdokklckbhaadoor", sum := "489d1ec74f304fe1766310c509dea630606a8fae6b3e4a8ce9de2e560dd7fa59", func := "straightedge/straightedgelaw06.ModularField", spec := "modularField", unfollowed := true, recurses := true, named := ["straightedge/modular.bases"], apart := false, laid := [("straightedge/modular.bases", laid_straightedge_modular_bases)], narrowed := true }
def ModularFieldUptoSaid : Prop := modularFieldUptoRow.holds Tryd.pinned (OpenSpec.upto modularFieldSpec)

/-- 'straightedgelaw06.ModularSquares', WHERE WHAT IT READS IS OF BULK AT MOST 1048576: true; the input reads as it did. -/
def modularSquaresUptoRow : OpenClaim := { program := "yteghdokklckbhaadoor", sum := "489d1ec74f304fe1766310c509dea630606a8fae6b3e4a8ce9de2e560dd7fa59", func := "straightedge/straightedgelaw06.ModularSquares", spec := "modularSquares", unfollowed := true, recurses := true, named := ["straightedge/modular.bases"], apart := false, laid := [("straightedge/modular.bases", laid_straightedge_modular_bases)], narrowed := true }
def ModularSquaresUptoSaid : Prop := modularSquaresUptoRow.holds Tryd.pinned (OpenSpec.upto modularSquaresSpec)

/-- 'straightedgelaw06.ModularRationals', WHERE WHAT IT READS IS OF BULK AT MOST 1048576: true; the input reads as it did. -/
def modularRationalsUptoRow : OpenClaim := { program := "yteghdokklckbhaadoor", sum := "489d1ec74f304fe1766310c509dea630606a8fae6b3e4a8ce9de2e560dd7fa59", func := "straightedge/straightedgelaw06.ModularRationals", spec := "modularRationals", unfollowed := true, recurses := true, named := ["straightedge/modular.bases"], apart := false, laid := [("straightedge/modular.bases", laid_straightedge_modular_bases)], narrowed := true }
def ModularRationalsUptoSaid : Prop := modularRationalsUptoRow.holds Tryd.pinned (OpenSpec.upto modularRationalsSpec)

end Rows
end Go.Proofs.YteghdokklckbhaaDoor
