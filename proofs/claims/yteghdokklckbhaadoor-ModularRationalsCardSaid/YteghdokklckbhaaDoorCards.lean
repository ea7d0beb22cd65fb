/-
  DERIVED. GIVEN WITH THE SEED: THE CARDS: each row of YteghdokklckbhaaDoorRows.lean that lists a variable, with what it lists TIED to the program's text (the seventh form; the later family's looks); each row that meets fmt, with fmt's text TOLD by the authors' own Lean function (tested against real Go, not proved from fmt's source: count such statements apart). THE CARD IS WHAT COUNTS. Prove the row's statement (the work); the ties are given (YteghdokklckbhaaDoorTie.lean); close each card by the builder's one call (the guide's Derived/Test/ToyasCard.lean, 'card_holds'). Laid BY PROGRAM, IN A SANDBOX (cutbox-door.mjs). By AI agents, Wed Nov 11 2026. No macro, syntax, notation, axiom, sorry.
-/
import Derived.Test.YteghdokklckbhaaDoorRows
import GoSem.ClaimSeven
namespace Go.Proofs.YteghdokklckbhaaDoor
namespace Rows

/-- THE TIED CARD OF 'straightedgelaw06.ModularPrimes'. -/
def modularPrimesCard : Claim7 := { stood := { row := modularPrimesRow, standIns := [], harness := (true, "b1ab822859d29eadcb6faf775d9eba253bbe672d175f927541d5d6578e6ebbd2"), looks := false }, kinds := [], alts := [], laidByText := true, laidKinds := [.data], laidTests := true, laidLooks := .later }
def ModularPrimesCardSaid : Prop := Claim7.holds Tryd.pinned (.plain (OpenSpec.ofChange modularPrimesSpec)) modularPrimesCard

/-- THE TIED CARD OF 'straightedgelaw06.ModularLifts'. -/
def modularLiftsCard : Claim7 := { stood := { row := modularLiftsRow, standIns := [], harness := (true, "b1ab822859d29eadcb6faf775d9eba253bbe672d175f927541d5d6578e6ebbd2"), looks := false }, kinds := [], alts := [], laidByText := true, laidKinds := [.data], laidTests := true, laidLooks := .later }
def ModularLiftsCardSaid : Prop := Claim7.holds Tryd.pinned (.plain (OpenSpec.ofChange modularLiftsSpec)) modularLiftsCard

/-- THE TIED CARD OF 'straightedgelaw06.ModularKernels'. -/
def modularKernelsCard : Claim7 := { stood := { row := modularKernelsRow, standIns := [], harness := (true, "b1ab822859d29eadcb6faf775d9eba253bbe672d175f927541d5d6578e6ebbd2"), looks := false }, kinds := [], alts := [], laidByText := true, laidKinds := [.data], laidTests := true, laidLooks := .later }
def ModularKernelsCardSaid : Prop := Claim7.holds Tryd.pinned (.plain (OpenSpec.ofChange modularKernelsSpec)) modularKernelsCard

/-- THE TIED CARD OF 'straightedgelaw06.ModularRanks'. -/
def modularRanksCard : Claim7 := { stood := { row := modularRanksRow, standIns := [], harness := (true, "b1ab822859d29eadcb6faf775d9eba253bbe672d175f927541d5d6578e6ebbd2"), looks := false }, kinds := [], alts := [], laidByText := true, laidKinds := [.data], laidTests := true, laidLooks := .later }
def ModularRanksCardSaid : Prop := Claim7.holds Tryd.pinned (.plain (OpenSpec.ofChange modularRanksSpec)) modularRanksCard

/-- THE TIED CARD OF 'straightedgelaw06.ModularField'. -/
def modularFieldCard : Claim7 := { stood := { row := modularFieldRow, standIns := [], harness := (true, "b1ab822859d29eadcb6faf775d9eba253bbe672d175f927541d5d6578e6ebbd2"), looks := false }, kinds := [], alts := [], laidByText := true, laidKinds := [.data], laidTests := true, laidLooks := .later }
def ModularFieldCardSaid : Prop := Claim7.holds Tryd.pinned (.plain (OpenSpec.ofChange modularFieldSpec)) modularFieldCard

/-- THE TIED CARD OF 'straightedgelaw06.ModularSquares'. -/
def modularSquaresCard : Claim7 := { stood := { row := modularSquaresRow, standIns := [], harness := (true, "b1ab822859d29eadcb6faf775d9eba253bbe672d175f927541d5d6578e6ebbd2"), looks := false }, kinds := [], alts := [], laidByText := true, laidKinds := [.data], laidTests := true, laidLooks := .later }
def ModularSquaresCardSaid : Prop := Claim7.holds Tryd.pinned (.plain (OpenSpec.ofChange modularSquaresSpec)) modularSquaresCard

/-- THE TIED CARD OF 'straightedgelaw06.ModularRationals'. -/
def modularRationalsCard : Claim7 := { stood := { row := modularRationalsRow, standIns := [], harness := (true, "b1ab822859d29eadcb6faf775d9eba253bbe672d175f927541d5d6578e6ebbd2"), looks := false }, kinds := [], alts := [], laidByText := true, laidKinds := [.data], laidTests := true, laidLooks := .later }
def ModularRationalsCardSaid : Prop := Claim7.holds Tryd.pinned (.plain (OpenSpec.ofChange modularRationalsSpec)) modularRationalsCard

/-- THE SECOND FORM's CARD OF 'straightedgelaw06.ModularPrimes'. -/
def modularPrimesUptoCard : Claim7 := { stood := { row := modularPrimesUptoRow, standIns := [], harness := (true, "b1ab822859d29eadcb6faf775d9eba253bbe672d175f927541d5d6578e6ebbd2"), looks := false }, kinds := [], alts := [], laidByText := true, laidKinds := [.data], laidTests := true, laidLooks := .later }
def ModularPrimesUptoCardSaid : Prop := Claim7.holds Tryd.pinned (.plain (OpenSpec.upto modularPrimesSpec)) modularPrimesUptoCard

/-- THE SECOND FORM's CARD OF 'straightedgelaw06.ModularLifts'. -/
def modularLiftsUptoCard : Claim7 := { stood := { row := modularLiftsUptoRow, standIns := [], harness := (true, "b1ab822859d29eadcb6faf775d9eba253bbe672d175f927541d5d6578e6ebbd2"), looks := false }, kinds := [], alts := [], laidByText := true, laidKinds := [.data], laidTests := true, laidLooks := .later }
def ModularLiftsUptoCardSaid : Prop := Claim7.holds Tryd.pinned (.plain (OpenSpec.upto modularLiftsSpec)) modularLiftsUptoCard

/-- THE SECOND FORM's CARD OF 'straightedgelaw06.ModularKernels'. -/
def modularKernelsUptoCard : Claim7 := { stood := { row := modularKernelsUptoRow, standIns := [], harness := (true, "b1ab822859d29eadcb6faf775d9eba253bbe672d175f927541d5d6578e6ebbd2"), looks := false }, kinds := [], alts := [], laidByText := true, laidKinds := [.data], laidTests := true, laidLooks := .later }
def ModularKernelsUptoCardSaid : Prop := Claim7.holds Tryd.pinned (.plain (OpenSpec.upto modularKernelsSpec)) modularKernelsUptoCard

/-- THE SECOND FORM's CARD OF 'straightedgelaw06.ModularRanks'. -/
def modularRanksUptoCard : Claim7 := { stood := { row := modularRanksUptoRow, standIns := [], harness := (true, "b1ab822859d29eadcb6faf775d9eba253bbe672d175f927541d5d6578e6ebbd2"), looks := false }, kinds := [], alts := [], laidByText := true, laidKinds := [.data], laidTests := true, laidLooks := .later }
def ModularRanksUptoCardSaid : Prop := Claim7.holds Tryd.pinned (.plain (OpenSpec.upto modularRanksSpec)) modularRanksUptoCard

/-- THE SECOND FORM's CARD OF 'straightedgelaw06.ModularField'. -/
def modularFieldUptoCard : Claim7 := { stood := { row := modularFieldUptoRow, standIns := [], harness := (true, "b1ab822859d29eadcb6faf775d9eba253bbe672d175f927541d5d6578e6ebbd2"), looks := false }, kinds := [], alts := [], laidByText := true, laidKinds := [.data], laidTests := true, laidLooks := .later }
def ModularFieldUptoCardSaid : Prop := Claim7.holds Tryd.pinned (.plain (OpenSpec.upto modularFieldSpec)) modularFieldUptoCard

/-- THE SECOND FORM's CARD OF 'straightedgelaw06.ModularSquares'. -/
def modularSquaresUptoCard : Claim7 := { stood := { row := modularSquaresUptoRow, standIns := [], harness := (true, "b1ab822859d29eadcb6faf775d9eba253bbe672d175f927541d5d6578e6ebbd2"), looks := false }, kinds := [], alts := [], laidByText := true, laidKinds := [.data], laidTests := true, laidLooks := .later }
def ModularSquaresUptoCardSaid : Prop := Claim7.holds Tryd.pinned (.plain (OpenSpec.upto modularSquaresSpec)) modularSquaresUptoCard

/-- THE SECOND FORM's CARD OF 'straightedgelaw06.ModularRationals'. -/
def modularRationalsUptoCard : Claim7 := { stood := { row := modularRationalsUptoRow, standIns := [], harness := (true, "b1ab822859d29eadcb6faf775d9eba253bbe672d175f927541d5d6578e6ebbd2"), looks := false }, kinds := [], alts := [], laidByText := true, laidKinds := [.data], laidTests := true, laidLooks := .later }
def ModularRationalsUptoCardSaid : Prop := Claim7.holds Tryd.pinned (.plain (OpenSpec.upto modularRationalsSpec)) modularRationalsUptoCard
end Rows
end Go.Proofs.YteghdokklckbhaaDoor
