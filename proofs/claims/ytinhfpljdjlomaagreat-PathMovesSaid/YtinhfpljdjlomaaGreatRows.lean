/-
  No cell of these rows narrows 'for every input' (looked for: loops, veiled, ifaces, maps, wideKeys, modest, calm, conditions, laid).
  DERIVED. THE GIVEN ROWS OF THIS SEAT. 9 by the template 'for every input the law returns true; each argument reads behind the call as it read before'; 0 by the template 'total and deterministic' (their statements: YtinhfpljdjlomaaGreatTotals.lean).
  GIVEN WITH THE SEED: the statements are not yours to turn. If you find one false, say at which input.
  Laid BY PROGRAM, IN A SANDBOX (cutbox-rows.mjs): the forced cells as the released guide's own fill.sh prints them over the translation 54a801490e867a45… (all of the seat's roots in one cut). By AI agents, Wed Nov 11 2026. No macro, syntax, notation, axiom, sorry.
-/
import Derived.Test.YtinhfpljdjlomaaGreatChecked
import GoSem.Claim
import GoSem.ClaimJoined
import GoSem.ClaimMapViews
import Derived.JoinedTies
import Derived.KernelRfl
namespace Go.Proofs.YtinhfpljdjlomaaGreat
/- THE CELL 'sum', in the pinned program and in every row, IS THE sha256 OF THE DUMP (.gsa) THAT YtinhfpljdjlomaaGreatProg.lean LOADS. Nothing in Lean hashes anything: it is a label: what it is worth is what the hold of that sum in a sandbox is worth. -/
noncomputable def Tryz.pinned : Pinned := { name := "ytinhfpljdjlomaagreat", sum := "54a801490e867a45410925d9a31f5401f235286ddb936cbaf94096a272266768", checked := Tryz.checked }
namespace Rows
def none {H : Type} : Left H := { results := [], args := [] }

/-- 'straightedgelaw17.PathDetours': WHATEVER THE INPUT: true; the input reads as it did. -/
def pathDetoursSpec : ChangeSpec := { name := "pathDetours", fn := fun _ => fun
  | [d] => { results := [.lit (.bool true)], args := [d] }
  | _ => none }
def pathDetoursRow : OpenClaim := { program := "ytinhfpljdjlomaagreat", sum := "54a801490e867a45410925d9a31f5401f235286ddb936cbaf94096a272266768", func := "straightedge/straightedgelaw17.PathDetours", spec := "pathDetours", unfollowed := true, recurses := true, plainKeys := false, apart := false }
def PathDetoursSaid : Prop := pathDetoursRow.holds Tryz.pinned (OpenSpec.ofChange pathDetoursSpec)

/-- ITS FALSE NEIGHBOUR: 'it returns false'. Refute it at one input. -/
def pathDetoursWrong : ChangeSpec := { name := "pathDetours", fn := fun _ => fun
  | [d] => { results := [.lit (.bool false)], args := [d] }
  | _ => none }
def PathDetoursWrongFalsely : Prop := pathDetoursRow.holds Tryz.pinned (OpenSpec.ofChange pathDetoursWrong)

/-- 'straightedgelaw17.PathTurns': WHATEVER THE INPUT: true; the input reads as it did. -/
def pathTurnsSpec : ChangeSpec := { name := "pathTurns", fn := fun _ => fun
  | [d] => { results := [.lit (.bool true)], args := [d] }
  | _ => none }
def pathTurnsRow : OpenClaim := { program := "ytinhfpljdjlomaagreat", sum := "54a801490e867a45410925d9a31f5401f235286ddb936cbaf94096a272266768", func := "straightedge/straightedgelaw17.PathTurns", spec := "pathTurns", unfollowed := true, recurses := true, plainKeys := false, apart := false }
def PathTurnsSaid : Prop := pathTurnsRow.holds Tryz.pinned (OpenSpec.ofChange pathTurnsSpec)

/-- ITS FALSE NEIGHBOUR: 'it returns false'. Refute it at one input. -/
def pathTurnsWrong : ChangeSpec := { name := "pathTurns", fn := fun _ => fun
  | [d] => { results := [.lit (.bool false)], args := [d] }
  | _ => none }
def PathTurnsWrongFalsely : Prop := pathTurnsRow.holds Tryz.pinned (OpenSpec.ofChange pathTurnsWrong)

/-- 'straightedgelaw17.PathMoves': WHATEVER THE INPUT: true; the input reads as it did. -/
def pathMovesSpec : ChangeSpec := { name := "pathMoves", fn := fun _ => fun
  | [d1, d2] => { results := [.lit (.bool true)], args := [d1, d2] }
  | _ => none }
def pathMovesRow : OpenClaim := { program := "ytinhfpljdjlomaagreat", sum := "54a801490e867a45410925d9a31f5401f235286ddb936cbaf94096a272266768", func := "straightedge/straightedgelaw17.PathMoves", spec := "pathMoves", unfollowed := true, recurses := true, plainKeys := false, apart := false }
def PathMovesSaid : Prop := pathMovesRow.holds Tryz.pinned (OpenSpec.ofChange pathMovesSpec)

/-- ITS FALSE NEIGHBOUR: 'it returns false'. Refute it at one input. -/
def pathMovesWrong : ChangeSpec := { name := "pathMoves", fn := fun _ => fun
  | [d1, d2] => { results := [.lit (.bool false)], args := [d1, d2] }
  | _ => none }
def PathMovesWrongFalsely : Prop := pathMovesRow.holds Tryz.pinned (OpenSpec.ofChange pathMovesWrong)

/-- 'straightedgelaw17.PathCorners': WHATEVER THE INPUT: true; the input reads as it did. -/
def pathCornersSpec : ChangeSpec := { name := "pathCorners", fn := fun _ => fun
  | [d1, d2, d3] => { results := [.lit (.bool true)], args := [d1, d2, d3] }
  | _ => none }
def pathCornersRow : OpenClaim := { program := "ytinhfpljdjlomaagreat", sum := "54a801490e867a45410925d9a31f5401f235286ddb936cbaf94096a272266768", func := "straightedge/straightedgelaw17.PathCorners", spec := "pathCorners", unfollowed := true, recurses := true, plainKeys := false, apart := false }
def PathCornersSaid : Prop := pathCornersRow.holds Tryz.pinned (OpenSpec.ofChange pathCornersSpec)

/-- ITS FALSE NEIGHBOUR: 'it returns false'. Refute it at one input. -/
def pathCornersWrong : ChangeSpec := { name := "pathCorners", fn := fun _ => fun
  | [d1, d2, d3] => { results := [.lit (.bool false)], args := [d1, d2, d3] }
  | _ => none }
def PathCornersWrongFalsely : Prop := pathCornersRow.holds Tryz.pinned (OpenSpec.ofChange pathCornersWrong)

/-- 'straightedgelaw17.PathReverses': WHATEVER THE INPUT: true; the input reads as it did. -/
def pathReversesSpec : ChangeSpec := { name := "pathReverses", fn := fun _ => fun
  | [d1, d2] => { results := [.lit (.bool true)], args := [d1, d2] }
  | _ => none }
def pathReversesRow : OpenClaim := { program := "ytinhfpljdjlomaagreat", sum := "54a801490e867a45410925d9a31f5401f235286ddb936cbaf94096a272266768", func := "straightedge/straightedgelaw17.PathReverses", spec := "pathReverses", unfollowed := true, recurses := true, plainKeys := false, apart := false }
def PathReversesSaid : Prop := pathReversesRow.holds Tryz.pinned (OpenSpec.ofChange pathReversesSpec)

/-- ITS FALSE NEIGHBOUR: 'it returns false'. Refute it at one input. -/
def pathReversesWrong : ChangeSpec := { name := "pathReverses", fn := fun _ => fun
  | [d1, d2] => { results := [.lit (.bool false)], args := [d1, d2] }
  | _ => none }
def PathReversesWrongFalsely : Prop := pathReversesRow.holds Tryz.pinned (OpenSpec.ofChange pathReversesWrong)

/-- 'straightedgelaw17.PathLoops': WHATEVER THE INPUT: true; the input reads as it did. -/
def pathLoopsSpec : ChangeSpec := { name := "pathLoops", fn := fun _ => fun
  | [d1, d2] => { results := [.lit (.bool true)], args := [d1, d2] }
  | _ => none }
def pathLoopsRow : OpenClaim := { program := "ytinhfpljdjlomaagreat", sum := "54a801490e867a45410925d9a31f5401f235286ddb936cbaf94096a272266768", func := "straightedge/straightedgelaw17.PathLoops", spec := "pathLoops", unfollowed := true, recurses := true, plainKeys := false, apart := false }
def PathLoopsSaid : Prop := pathLoopsRow.holds Tryz.pinned (OpenSpec.ofChange pathLoopsSpec)

/-- ITS FALSE NEIGHBOUR: 'it returns false'. Refute it at one input. -/
def pathLoopsWrong : ChangeSpec := { name := "pathLoops", fn := fun _ => fun
  | [d1, d2] => { results := [.lit (.bool false)], args := [d1, d2] }
  | _ => none }
def PathLoopsWrongFalsely : Prop := pathLoopsRow.holds Tryz.pinned (OpenSpec.ofChange pathLoopsWrong)

/-- 'straightedgelaw17.PathBoxes': WHATEVER THE INPUT: true; the input reads as it did. -/
def pathBoxesSpec : ChangeSpec := { name := "pathBoxes", fn := fun _ => fun
  | [d] => { results := [.lit (.bool true)], args := [d] }
  | _ => none }
def pathBoxesRow : OpenClaim := { program := "ytinhfpljdjlomaagreat", sum := "54a801490e867a45410925d9a31f5401f235286ddb936cbaf94096a272266768", func := "straightedge/straightedgelaw17.PathBoxes", spec := "pathBoxes", unfollowed := true, recurses := true, plainKeys := false, apart := false }
def PathBoxesSaid : Prop := pathBoxesRow.holds Tryz.pinned (OpenSpec.ofChange pathBoxesSpec)

/-- ITS FALSE NEIGHBOUR: 'it returns false'. Refute it at one input. -/
def pathBoxesWrong : ChangeSpec := { name := "pathBoxes", fn := fun _ => fun
  | [d] => { results := [.lit (.bool false)], args := [d] }
  | _ => none }
def PathBoxesWrongFalsely : Prop := pathBoxesRow.holds Tryz.pinned (OpenSpec.ofChange pathBoxesWrong)

/-- 'straightedgelaw17.PathBetween': WHATEVER THE INPUT: true; the input reads as it did. -/
def pathBetweenSpec : ChangeSpec := { name := "pathBetween", fn := fun _ => fun
  | [d] => { results := [.lit (.bool true)], args := [d] }
  | _ => none }
def pathBetweenRow : OpenClaim := { program := "ytinhfpljdjlomaagreat", sum := "54a801490e867a45410925d9a31f5401f235286ddb936cbaf94096a272266768", func := "straightedge/straightedgelaw17.PathBetween", spec := "pathBetween", unfollowed := true, recurses := true, plainKeys := false, apart := false }
def PathBetweenSaid : Prop := pathBetweenRow.holds Tryz.pinned (OpenSpec.ofChange pathBetweenSpec)

/-- ITS FALSE NEIGHBOUR: 'it returns false'. Refute it at one input. -/
def pathBetweenWrong : ChangeSpec := { name := "pathBetween", fn := fun _ => fun
  | [d] => { results := [.lit (.bool false)], args := [d] }
  | _ => none }
def PathBetweenWrongFalsely : Prop := pathBetweenRow.holds Tryz.pinned (OpenSpec.ofChange pathBetweenWrong)

/-- 'straightedgelaw17.PathEnds': WHATEVER THE INPUT: true; the input reads as it did. -/
def pathEndsSpec : ChangeSpec := { name := "pathEnds", fn := fun _ => fun
  | [d] => { results := [.lit (.bool true)], args := [d] }
  | _ => none }
def pathEndsRow : OpenClaim := { program := "ytinhfpljdjlomaagreat", sum := "54a801490e867a45410925d9a31f5401f235286ddb936cbaf94096a272266768", func := "straightedge/straightedgelaw17.PathEnds", spec := "pathEnds", unfollowed := true, recurses := true, plainKeys := false, apart := false }
def PathEndsSaid : Prop := pathEndsRow.holds Tryz.pinned (OpenSpec.ofChange pathEndsSpec)

/-- ITS FALSE NEIGHBOUR: 'it returns false'. Refute it at one input. -/
def pathEndsWrong : ChangeSpec := { name := "pathEnds", fn := fun _ => fun
  | [d] => { results := [.lit (.bool false)], args := [d] }
  | _ => none }
def PathEndsWrongFalsely : Prop := pathEndsRow.holds Tryz.pinned (OpenSpec.ofChange pathEndsWrong)

/- THE SECOND FORM. 'bulk': how many values and letters a reading holds, each counted each time it is reached (what is shared counts as often as it is met; a slice's spare places count too). A statement '..UptoSaid' is the law's where the arguments, and the package variables that the reading takes, are together of bulk at most 1048576: NARROWER than '..Said'. Prove '..Said' where nothing that the law and all that it calls make is longer than what came in: it says more and counts as full. Else prove '..UptoSaid'. A law counts once. -/
mutual
def uptoBulk {H : Type} : DataW H → Nat
  | .lit (.string bytes) => bytes.length + 1
  | .lit _ => 1
  | .nil => 1
  | .ptr d => uptoBulk d + 1
  | .slice elems spare => uptoBulkAll elems + uptoBulkAll spare + 1
  | .agg parts => uptoBulkAll parts + 1
  | .iface _ d => uptoBulk d + 1
  | .map entries => uptoBulkEntries entries + 1
  | .held _ => 1
def uptoBulkAll {H : Type} : List (DataW H) → Nat
  | [] => 0
  | d :: r => uptoBulk d + uptoBulkAll r
def uptoBulkEntries {H : Type} : List (Lit × DataW H) → Nat
  | [] => 0
  | x :: r => uptoBulkEntry x + uptoBulkEntries r
def uptoBulkEntry {H : Type} : Lit × DataW H → Nat
  | (.string bytes, d) => bytes.length + uptoBulk d + 1
  | (_, d) => uptoBulk d + 1
 end
def uptoSmall : (H : Type) → List (DataW H) → Bool := fun _ ds => decide (uptoBulkAll ds ≤ 1048576)
def OpenSpec.upto (s : _root_.Go.ChangeSpec) : _root_.Go.OpenSpec := { _root_.Go.OpenSpec.ofChange s with cond := some uptoSmall }

/-- 'straightedgelaw17.PathDetours', WHERE WHAT IT READS IS OF BULK AT MOST 1048576: true; the input reads as it did. -/
def pathDetoursUptoRow : OpenClaim := { program := "ytinhfpljdjlomaagreat", sum := "54a801490e867a45410925d9a31f5401f235286ddb936cbaf94096a272266768", func := "straightedge/straightedgelaw17.PathDetours", spec := "pathDetours", unfollowed := true, recurses := true, plainKeys := false, apart := false, narrowed := true }
def PathDetoursUptoSaid : Prop := pathDetoursUptoRow.holds Tryz.pinned (OpenSpec.upto pathDetoursSpec)

/-- 'straightedgelaw17.PathTurns', WHERE WHAT IT READS IS OF BULK AT MOST 1048576: true; the input reads as it did. -/
def pathTurnsUptoRow : OpenClaim := { program := "ytinhfpljdjlomaagreat", sum := "54a801490e867a45410925d9a31f5401f235286ddb936cbaf94096a272266768", func := "straightedge/straightedgelaw17.PathTurns", spec := "pathTurns", unfollowed := true, recurses := true, plainKeys := false, apart := false, narrowed := true }
def PathTurnsUptoSaid : Prop := pathTurnsUptoRow.holds Tryz.pinned (OpenSpec.upto pathTurnsSpec)

/-- 'straightedgelaw17.PathMoves', WHERE WHAT IT READS IS OF BULK AT MOST 1048576: true; the input reads as it did. -/
def pathMovesUptoRow : OpenClaim := { program := "ytinhfpljdjlomaagreat", sum := "54a801490e867a45410925d9a31f5401f235286ddb936cbaf94096a272266768", func := "straightedge/straightedgelaw17.PathMoves", spec := "pathMoves", unfollowed := true, recurses := true, plainKeys := false, apart := false, narrowed := true }
def PathMovesUptoSaid : Prop := pathMovesUptoRow.holds Tryz.pinned (OpenSpec.upto pathMovesSpec)

/-- 'straightedgelaw17.PathCorners', WHERE WHAT IT READS IS OF BULK AT MOST 1048576: true; the input reads as it did. -/
def pathCornersUptoRow : OpenClaim := { program := "ytinhfpljdjlomaagreat", sum := "54a801490e867a45410925d9a31f5401f235286ddb936cbaf94096a272266768", func := "straightedge/straightedgelaw17.PathCorners", spec := "pathCorners", unfollowed := true, recurses := true, plainKeys := false, apart := false, narrowed := true }
def PathCornersUptoSaid : Prop := pathCornersUptoRow.holds Tryz.pinned (OpenSpec.upto pathCornersSpec)

/-- 'straightedgelaw17.PathReverses', WHERE WHAT IT READS IS OF BULK AT MOST 1048576: true; the input reads as it did. -/
def pathReversesUptoRow : OpenClaim := { program := "ytinhfpljdjlomaagreat", sum := "54a801490e867a45410925d9a31f5401f235286ddb936cbaf94096a272266768", func := "straightedge/straightedgelaw17.PathReverses", spec := "pathReverses", unfollowed := true, recurses := true, plainKeys := false, apart := false, narrowed := true }
def PathReversesUptoSaid : Prop := pathReversesUptoRow.holds Tryz.pinned (OpenSpec.upto pathReversesSpec)

/-- 'straightedgelaw17.PathLoops', WHERE WHAT IT READS IS OF BULK AT MOST 1048576: true; the input reads as it did. -/
def pathLoopsUptoRow : OpenClaim := { program := "ytinhfpljdjlomaagreat", sum := "54a801490e867a45410925d9a31f5401f235286ddb936cbaf94096a272266768", func := "straightedge/straightedgelaw17.PathLoops", spec := "pathLoops", unfollowed := true, recurses := true, plainKeys := false, apart := false, narrowed := true }
def PathLoopsUptoSaid : Prop := pathLoopsUptoRow.holds Tryz.pinned (OpenSpec.upto pathLoopsSpec)

/-- 'straightedgelaw17.PathBoxes', WHERE WHAT IT READS IS OF BULK AT MOST 1048576: true; the input reads as it did. -/
def pathBoxesUptoRow : OpenClaim := { program := "ytinhfpljdjlomaagreat", sum := "54a801490e867a45410925d9a31f5401f235286ddb936cbaf94096a272266768", func := "straightedge/straightedgelaw17.PathBoxes", spec := "pathBoxes", unfollowed := true, recurses := true, plainKeys := false, apart := false, narrowed := true }
def PathBoxesUptoSaid : Prop := pathBoxesUptoRow.holds Tryz.pinned (OpenSpec.upto pathBoxesSpec)

/-- 'straightedgelaw17.PathBetween', WHERE WHAT IT READS IS OF BULK AT MOST 1048576: true; the input reads as it did. -/
def pathBetweenUptoRow : OpenClaim := { program := "ytinhfpljdjlomaagreat", sum := "54a801490e867a45410925d9a31f5401f235286ddb936cbaf94096a272266768", func := "straightedge/straightedgelaw17.PathBetween", spec := "pathBetween", unfollowed := true, recurses := true, plainKeys := false, apart := false, narrowed := true }
def PathBetweenUptoSaid : Prop := pathBetweenUptoRow.holds Tryz.pinned (OpenSpec.upto pathBetweenSpec)

/-- 'straightedgelaw17.PathEnds', WHERE WHAT IT READS IS OF BULK AT MOST 1048576: true; the input reads as it did. -/
def pathEndsUptoRow : OpenClaim := { program := "ytinhfpljdjlomaagreat", sum := "54a801490e867a45410925d9a31f5401f235286ddb936cbaf94096a272266768", func := "straightedge/straightedgelaw17.PathEnds", spec := "pathEnds", unfollowed := true, recurses := true, plainKeys := false, apart := false, narrowed := true }
def PathEndsUptoSaid : Prop := pathEndsUptoRow.holds Tryz.pinned (OpenSpec.upto pathEndsSpec)

end Rows
end Go.Proofs.YtinhfpljdjlomaaGreat
