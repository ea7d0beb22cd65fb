/-
  DERIVED. GIVEN WITH THE SEED: THE CARDS: each row of YtpjjbhhoagocjaaGreatDoorRows.lean that lists a variable, with what it lists TIED to the program's text (the seventh form; the later family's looks); each row that meets fmt, with fmt's text TOLD by the authors' own Lean function (tested against real Go, not proved from fmt's source: count such statements apart). THE CARD IS WHAT COUNTS. Prove the row's statement (the work); the ties are given (YtpjjbhhoagocjaaGreatDoorTie.lean); close each card by the builder's one call (the guide's Derived/Test/ToyasCard.lean, 'card_holds'). Laid BY PROGRAM, IN A SANDBOX (cutbox-door.mjs). By AI agents, Wed Nov 11 2026. No macro, syntax, notation, axiom, sorry.
-/
import Derived.Test.YtpjjbhhoagocjaaGreatDoorRows
import GoSem.ClaimSeven
namespace Go.Proofs.YtpjjbhhoagocjaaGreatDoor
namespace Rows

/-- THE TIED CARD OF 'straightedgelaw03.UnipolyDivisors'. -/
def unipolyDivisorsCard : Claim7 := { stood := { row := unipolyDivisorsRow, standIns := [], harness := (true, "673d2eafa11b1bca90c8d65118d41838f54ad8c7960c1889da24e474b729317e"), looks := true }, kinds := [], alts := [], laidByText := true, laidKinds := [.data, .data, .data], laidTests := true, laidLooks := .later }
def UnipolyDivisorsCardSaid : Prop := Claim7.holds Tryz.pinned (.plain (OpenSpec.ofChange unipolyDivisorsSpec)) unipolyDivisorsCard

/-- THE TIED CARD OF 'straightedgelaw03.UnipolyResultants'. -/
def unipolyResultantsCard : Claim7 := { stood := { row := unipolyResultantsRow, standIns := [], harness := (true, "673d2eafa11b1bca90c8d65118d41838f54ad8c7960c1889da24e474b729317e"), looks := true }, kinds := [], alts := [], laidByText := true, laidKinds := [.data, .data, .data], laidTests := true, laidLooks := .later }
def UnipolyResultantsCardSaid : Prop := Claim7.holds Tryz.pinned (.plain (OpenSpec.ofChange unipolyResultantsSpec)) unipolyResultantsCard

/-- THE TIED CARD OF 'straightedgelaw03.UnipolyOverIntegers'. -/
def unipolyOverIntegersCard : Claim7 := { stood := { row := unipolyOverIntegersRow, standIns := [], harness := (true, "673d2eafa11b1bca90c8d65118d41838f54ad8c7960c1889da24e474b729317e"), looks := true }, kinds := [], alts := [], laidByText := true, laidKinds := [.data, .data, .data], laidTests := true, laidLooks := .later }
def UnipolyOverIntegersCardSaid : Prop := Claim7.holds Tryz.pinned (.plain (OpenSpec.ofChange unipolyOverIntegersSpec)) unipolyOverIntegersCard

/-- THE TIED CARD OF 'straightedgelaw03.UnipolyDivision'. -/
def unipolyDivisionCard : Claim7 := { stood := { row := unipolyDivisionRow, standIns := [], harness := (true, "673d2eafa11b1bca90c8d65118d41838f54ad8c7960c1889da24e474b729317e"), looks := true }, kinds := [], alts := [], laidByText := true, laidKinds := [.data, .data, .data], laidTests := true, laidLooks := .later }
def UnipolyDivisionCardSaid : Prop := Claim7.holds Tryz.pinned (.plain (OpenSpec.ofChange unipolyDivisionSpec)) unipolyDivisionCard

/-- THE TIED CARD OF 'straightedgelaw03.UnipolyLimits'. -/
def unipolyLimitsCard : Claim7 := { stood := { row := unipolyLimitsRow, standIns := [], harness := (true, "673d2eafa11b1bca90c8d65118d41838f54ad8c7960c1889da24e474b729317e"), looks := true }, kinds := [], alts := [], laidByText := true, laidKinds := [.data, .data, .data], laidTests := true, laidLooks := .later }
def UnipolyLimitsCardSaid : Prop := Claim7.holds Tryz.pinned (.plain (OpenSpec.ofChange unipolyLimitsSpec)) unipolyLimitsCard

/-- THE TIED CARD OF 'straightedgelaw03.UnipolySquarefree'. -/
def unipolySquarefreeCard : Claim7 := { stood := { row := unipolySquarefreeRow, standIns := [], harness := (true, "673d2eafa11b1bca90c8d65118d41838f54ad8c7960c1889da24e474b729317e"), looks := true }, kinds := [], alts := [], laidByText := true, laidKinds := [.data, .data, .data], laidTests := true, laidLooks := .later }
def UnipolySquarefreeCardSaid : Prop := Claim7.holds Tryz.pinned (.plain (OpenSpec.ofChange unipolySquarefreeSpec)) unipolySquarefreeCard

/-- THE TIED CARD OF 'straightedgelaw03.UnipolyRing'. -/
def unipolyRingCard : Claim7 := { stood := { row := unipolyRingRow, standIns := [], harness := (true, "673d2eafa11b1bca90c8d65118d41838f54ad8c7960c1889da24e474b729317e"), looks := true }, kinds := [], alts := [], laidByText := true, laidKinds := [.data, .data, .data], laidTests := true, laidLooks := .later }
def UnipolyRingCardSaid : Prop := Claim7.holds Tryz.pinned (.plain (OpenSpec.ofChange unipolyRingSpec)) unipolyRingCard

/-- THE TIED CARD OF 'straightedgelaw03.UnipolyGreatNumbers'. -/
def unipolyGreatNumbersCard : Claim7 := { stood := { row := unipolyGreatNumbersRow, standIns := [], harness := (true, "673d2eafa11b1bca90c8d65118d41838f54ad8c7960c1889da24e474b729317e"), looks := true }, kinds := [], alts := [], laidByText := true, laidKinds := [.data, .data, .data], laidTests := true, laidLooks := .later }
def UnipolyGreatNumbersCardSaid : Prop := Claim7.holds Tryz.pinned (.plain (OpenSpec.ofChange unipolyGreatNumbersSpec)) unipolyGreatNumbersCard

/-- THE TIED CARD OF 'straightedgelaw03.UnipolyEvaluates'. -/
def unipolyEvaluatesCard : Claim7 := { stood := { row := unipolyEvaluatesRow, standIns := [], harness := (true, "673d2eafa11b1bca90c8d65118d41838f54ad8c7960c1889da24e474b729317e"), looks := true }, kinds := [], alts := [], laidByText := true, laidKinds := [.data, .data, .data], laidTests := true, laidLooks := .later }
def UnipolyEvaluatesCardSaid : Prop := Claim7.holds Tryz.pinned (.plain (OpenSpec.ofChange unipolyEvaluatesSpec)) unipolyEvaluatesCard

/-- THE TIED CARD OF 'straightedgelaw03.UnipolyDerives'. -/
def unipolyDerivesCard : Claim7 := { stood := { row := unipolyDerivesRow, standIns := [], harness := (true, "673d2eafa11b1bca90c8d65118d41838f54ad8c7960c1889da24e474b729317e"), looks := true }, kinds := [], alts := [], laidByText := true, laidKinds := [.data, .data, .data], laidTests := true, laidLooks := .later }
def UnipolyDerivesCardSaid : Prop := Claim7.holds Tryz.pinned (.plain (OpenSpec.ofChange unipolyDerivesSpec)) unipolyDerivesCard

/-- THE TIED CARD OF 'straightedgelaw03.UnipolyMatchesReference'. -/
def unipolyMatchesReferenceCard : Claim7 := { stood := { row := unipolyMatchesReferenceRow, standIns := [], harness := (true, "673d2eafa11b1bca90c8d65118d41838f54ad8c7960c1889da24e474b729317e"), looks := true }, kinds := [], alts := [], laidByText := true, laidKinds := [.data, .data, .data], laidTests := true, laidLooks := .later }
def UnipolyMatchesReferenceCardSaid : Prop := Claim7.holds Tryz.pinned (.plain (OpenSpec.ofChange unipolyMatchesReferenceSpec)) unipolyMatchesReferenceCard

/-- THE SECOND FORM's CARD OF 'straightedgelaw03.UnipolyDivisors'. -/
def unipolyDivisorsUptoCard : Claim7 := { stood := { row := unipolyDivisorsUptoRow, standIns := [], harness := (true, "673d2eafa11b1bca90c8d65118d41838f54ad8c7960c1889da24e474b729317e"), looks := true }, kinds := [], alts := [], laidByText := true, laidKinds := [.data, .data, .data], laidTests := true, laidLooks := .later }
def UnipolyDivisorsUptoCardSaid : Prop := Claim7.holds Tryz.pinned (.plain (OpenSpec.upto unipolyDivisorsSpec)) unipolyDivisorsUptoCard

/-- THE SECOND FORM's CARD OF 'straightedgelaw03.UnipolyResultants'. -/
def unipolyResultantsUptoCard : Claim7 := { stood := { row := unipolyResultantsUptoRow, standIns := [], harness := (true, "673d2eafa11b1bca90c8d65118d41838f54ad8c7960c1889da24e474b729317e"), looks := true }, kinds := [], alts := [], laidByText := true, laidKinds := [.data, .data, .data], laidTests := true, laidLooks := .later }
def UnipolyResultantsUptoCardSaid : Prop := Claim7.holds Tryz.pinned (.plain (OpenSpec.upto unipolyResultantsSpec)) unipolyResultantsUptoCard

/-- THE SECOND FORM's CARD OF 'straightedgelaw03.UnipolyOverIntegers'. -/
def unipolyOverIntegersUptoCard : Claim7 := { stood := { row := unipolyOverIntegersUptoRow, standIns := [], harness := (true, "673d2eafa11b1bca90c8d65118d41838f54ad8c7960c1889da24e474b729317e"), looks := true }, kinds := [], alts := [], laidByText := true, laidKinds := [.data, .data, .data], laidTests := true, laidLooks := .later }
def UnipolyOverIntegersUptoCardSaid : Prop := Claim7.holds Tryz.pinned (.plain (OpenSpec.upto unipolyOverIntegersSpec)) unipolyOverIntegersUptoCard

/-- THE SECOND FORM's CARD OF 'straightedgelaw03.UnipolyDivision'. -/
def unipolyDivisionUptoCard : Claim7 := { stood := { row := unipolyDivisionUptoRow, standIns := [], harness := (true, "673d2eafa11b1bca90c8d65118d41838f54ad8c7960c1889da24e474b729317e"), looks := true }, kinds := [], alts := [], laidByText := true, laidKinds := [.data, .data, .data], laidTests := true, laidLooks := .later }
def UnipolyDivisionUptoCardSaid : Prop := Claim7.holds Tryz.pinned (.plain (OpenSpec.upto unipolyDivisionSpec)) unipolyDivisionUptoCard

/-- THE SECOND FORM's CARD OF 'straightedgelaw03.UnipolyLimits'. -/
def unipolyLimitsUptoCard : Claim7 := { stood := { row := unipolyLimitsUptoRow, standIns := [], harness := (true, "673d2eafa11b1bca90c8d65118d41838f54ad8c7960c1889da24e474b729317e"), looks := true }, kinds := [], alts := [], laidByText := true, laidKinds := [.data, .data, .data], laidTests := true, laidLooks := .later }
def UnipolyLimitsUptoCardSaid : Prop := Claim7.holds Tryz.pinned (.plain (OpenSpec.upto unipolyLimitsSpec)) unipolyLimitsUptoCard

/-- THE SECOND FORM's CARD OF 'straightedgelaw03.UnipolySquarefree'. -/
def unipolySquarefreeUptoCard : Claim7 := { stood := { row := unipolySquarefreeUptoRow, standIns := [], harness := (true, "673d2eafa11b1bca90c8d65118d41838f54ad8c7960c1889da24e474b729317e"), looks := true }, kinds := [], alts := [], laidByText := true, laidKinds := [.data, .data, .data], laidTests := true, laidLooks := .later }
def UnipolySquarefreeUptoCardSaid : Prop := Claim7.holds Tryz.pinned (.plain (OpenSpec.upto unipolySquarefreeSpec)) unipolySquarefreeUptoCard

/-- THE SECOND FORM's CARD OF 'straightedgelaw03.UnipolyRing'. -/
def unipolyRingUptoCard : Claim7 := { stood := { row := unipolyRingUptoRow, standIns := [], harness := (true, "673d2eafa11b1bca90c8d65118d41838f54ad8c7960c1889da24e474b729317e"), looks := true }, kinds := [], alts := [], laidByText := true, laidKinds := [.data, .data, .data], laidTests := true, laidLooks := .later }
def UnipolyRingUptoCardSaid : Prop := Claim7.holds Tryz.pinned (.plain (OpenSpec.upto unipolyRingSpec)) unipolyRingUptoCard

/-- THE SECOND FORM's CARD OF 'straightedgelaw03.UnipolyGreatNumbers'. -/
def unipolyGreatNumbersUptoCard : Claim7 := { stood := { row := unipolyGreatNumbersUptoRow, standIns := [], harness := (true, "673d2eafa11b1bca90c8d65118d41838f54ad8c7960c1889da24e474b729317e"), looks := true }, kinds := [], alts := [], laidByText := true, laidKinds := [.data, .data, .data], laidTests := true, laidLooks := .later }
def UnipolyGreatNumbersUptoCardSaid : Prop := Claim7.holds Tryz.pinned (.plain (OpenSpec.upto unipolyGreatNumbersSpec)) unipolyGreatNumbersUptoCard

/-- THE SECOND FORM's CARD OF 'straightedgelaw03.UnipolyEvaluates'. -/
def unipolyEvaluatesUptoCard : Claim7 := { stood := { row := unipolyEvaluatesUptoRow, standIns := [], harness := (true, "673d2eafa11b1bca90c8d65118d41838f54ad8c7960c1889da24e474b729317e"), looks := true }, kinds := [], alts := [], laidByText := true, laidKinds := [.data, .data, .data], laidTests := true, laidLooks := .later }
def UnipolyEvaluatesUptoCardSaid : Prop := Claim7.holds Tryz.pinned (.plain (OpenSpec.upto unipolyEvaluatesSpec)) unipolyEvaluatesUptoCard

/-- THE SECOND FORM's CARD OF 'straightedgelaw03.UnipolyDerives'. -/
def unipolyDerivesUptoCard : Claim7 := { stood := { row := unipolyDerivesUptoRow, standIns := [], harness := (true, "673d2eafa11b1bca90c8d65118d41838f54ad8c7960c1889da24e474b729317e"), looks := true }, kinds := [], alts := [], laidByText := true, laidKinds := [.data, .data, .data], laidTests := true, laidLooks := .later }
def UnipolyDerivesUptoCardSaid : Prop := Claim7.holds Tryz.pinned (.plain (OpenSpec.upto unipolyDerivesSpec)) unipolyDerivesUptoCard

/-- THE SECOND FORM's CARD OF 'straightedgelaw03.UnipolyMatchesReference'. -/
def unipolyMatchesReferenceUptoCard : Claim7 := { stood := { row := unipolyMatchesReferenceUptoRow, standIns := [], harness := (true, "673d2eafa11b1bca90c8d65118d41838f54ad8c7960c1889da24e474b729317e"), looks := true }, kinds := [], alts := [], laidByText := true, laidKinds := [.data, .data, .data], laidTests := true, laidLooks := .later }
def UnipolyMatchesReferenceUptoCardSaid : Prop := Claim7.holds Tryz.pinned (.plain (OpenSpec.upto unipolyMatchesReferenceSpec)) unipolyMatchesReferenceUptoCard
end Rows
end Go.Proofs.YtpjjbhhoagocjaaGreatDoor
