/-
  DERIVED. GIVEN WITH THE SEED: THE CARDS: each row of YtddaadmoibhgbaaDoorRows.lean that lists a variable, with what it lists TIED to the program's text (the seventh form; the later family's looks); each row that meets fmt, with fmt's text TOLD by the authors' own Lean function (tested against real Go, not proved from fmt's source: count such statements apart). THE CARD IS WHAT COUNTS. Prove the row's statement (the work); the ties are given (YtddaadmoibhgbaaDoorTie.lean); close each card by the builder's one call (the guide's Derived/Test/ToyasCard.lean, 'card_holds'). Laid BY PROGRAM, IN A SANDBOX (cutbox-door.mjs). By AI agents, Wed Nov 11 2026. No macro, syntax, notation, axiom, sorry.
-/
import Derived.Test.YtddaadmoibhgbaaDoorRows
import GoSem.ClaimSeven
namespace Go.Proofs.YtddaadmoibhgbaaDoor
namespace Rows

/-- THE TIED CARD OF 'tmplpipelaw06.RunesDecoderMatchesReference'. -/
def runesDecoderMatchesReferenceCard : Claim7 := { stood := { row := runesDecoderMatchesReferenceRow, standIns := [], harness := (true, "ed259aa96c56a27741fb337e441ecb79f2cbe2d31b9ee556943b657443d97983"), looks := false }, kinds := [], alts := [], laidByText := true, laidKinds := [.data, .pinned], laidTests := true, laidLooks := .later }
def RunesDecoderMatchesReferenceCardSaid : Prop := Claim7.holds Tryd.pinned (.plain (OpenSpec.ofChange runesDecoderMatchesReferenceSpec)) runesDecoderMatchesReferenceCard

/-- THE TIED CARD OF 'tmplpipelaw06.RunesSplitIrrelevant'. -/
def runesSplitIrrelevantCard : Claim7 := { stood := { row := runesSplitIrrelevantRow, standIns := [], harness := (true, "ed259aa96c56a27741fb337e441ecb79f2cbe2d31b9ee556943b657443d97983"), looks := false }, kinds := [], alts := [], laidByText := true, laidKinds := [.data, .pinned], laidTests := true, laidLooks := .later }
def RunesSplitIrrelevantCardSaid : Prop := Claim7.holds Tryd.pinned (.plain (OpenSpec.ofChange runesSplitIrrelevantSpec)) runesSplitIrrelevantCard

/-- THE TIED CARD OF 'tmplpipelaw06.RunesEncodeMatchesReference'. -/
def runesEncodeMatchesReferenceCard : Claim7 := { stood := { row := runesEncodeMatchesReferenceRow, standIns := [], harness := (true, "ed259aa96c56a27741fb337e441ecb79f2cbe2d31b9ee556943b657443d97983"), looks := false }, kinds := [], alts := [], laidByText := true, laidKinds := [.data, .pinned], laidTests := true, laidLooks := .later }
def RunesEncodeMatchesReferenceCardSaid : Prop := Claim7.holds Tryd.pinned (.plain (OpenSpec.ofChange runesEncodeMatchesReferenceSpec)) runesEncodeMatchesReferenceCard

/-- THE TIED CARD OF 'tmplpipelaw06.RunesDecodeMatchesReference'. -/
def runesDecodeMatchesReferenceCard : Claim7 := { stood := { row := runesDecodeMatchesReferenceRow, standIns := [], harness := (true, "ed259aa96c56a27741fb337e441ecb79f2cbe2d31b9ee556943b657443d97983"), looks := false }, kinds := [], alts := [], laidByText := true, laidKinds := [.data, .pinned], laidTests := true, laidLooks := .later }
def RunesDecodeMatchesReferenceCardSaid : Prop := Claim7.holds Tryd.pinned (.plain (OpenSpec.ofChange runesDecodeMatchesReferenceSpec)) runesDecodeMatchesReferenceCard

/-- THE TIED CARD OF 'tmplpipelaw06.RunesConcatenation'. -/
def runesConcatenationCard : Claim7 := { stood := { row := runesConcatenationRow, standIns := [], harness := (true, "ed259aa96c56a27741fb337e441ecb79f2cbe2d31b9ee556943b657443d97983"), looks := false }, kinds := [], alts := [], laidByText := true, laidKinds := [.data, .pinned], laidTests := true, laidLooks := .later }
def RunesConcatenationCardSaid : Prop := Claim7.holds Tryd.pinned (.plain (OpenSpec.ofChange runesConcatenationSpec)) runesConcatenationCard

/-- THE TIED CARD OF 'tmplpipelaw06.RunesRoundTrip'. -/
def runesRoundTripCard : Claim7 := { stood := { row := runesRoundTripRow, standIns := [], harness := (true, "ed259aa96c56a27741fb337e441ecb79f2cbe2d31b9ee556943b657443d97983"), looks := false }, kinds := [], alts := [], laidByText := true, laidKinds := [.data, .pinned], laidTests := true, laidLooks := .later }
def RunesRoundTripCardSaid : Prop := Claim7.holds Tryd.pinned (.plain (OpenSpec.ofChange runesRoundTripSpec)) runesRoundTripCard

/-- THE SECOND FORM's CARD OF 'tmplpipelaw06.RunesDecoderMatchesReference'. -/
def runesDecoderMatchesReferenceUptoCard : Claim7 := { stood := { row := runesDecoderMatchesReferenceUptoRow, standIns := [], harness := (true, "ed259aa96c56a27741fb337e441ecb79f2cbe2d31b9ee556943b657443d97983"), looks := false }, kinds := [], alts := [], laidByText := true, laidKinds := [.data, .pinned], laidTests := true, laidLooks := .later }
def RunesDecoderMatchesReferenceUptoCardSaid : Prop := Claim7.holds Tryd.pinned (.plain (OpenSpec.upto runesDecoderMatchesReferenceSpec)) runesDecoderMatchesReferenceUptoCard

/-- THE SECOND FORM's CARD OF 'tmplpipelaw06.RunesSplitIrrelevant'. -/
def runesSplitIrrelevantUptoCard : Claim7 := { stood := { row := runesSplitIrrelevantUptoRow, standIns := [], harness := (true, "ed259aa96c56a27741fb337e441ecb79f2cbe2d31b9ee556943b657443d97983"), looks := false }, kinds := [], alts := [], laidByText := true, laidKinds := [.data, .pinned], laidTests := true, laidLooks := .later }
def RunesSplitIrrelevantUptoCardSaid : Prop := Claim7.holds Tryd.pinned (.plain (OpenSpec.upto runesSplitIrrelevantSpec)) runesSplitIrrelevantUptoCard

/-- THE SECOND FORM's CARD OF 'tmplpipelaw06.RunesEncodeMatchesReference'. -/
def runesEncodeMatchesReferenceUptoCard : Claim7 := { stood := { row := runesEncodeMatchesReferenceUptoRow, standIns := [], harness := (true, "ed259aa96c56a27741fb337e441ecb79f2cbe2d31b9ee556943b657443d97983"), looks := false }, kinds := [], alts := [], laidByText := true, laidKinds := [.data, .pinned], laidTests := true, laidLooks := .later }
def RunesEncodeMatchesReferenceUptoCardSaid : Prop := Claim7.holds Tryd.pinned (.plain (OpenSpec.upto runesEncodeMatchesReferenceSpec)) runesEncodeMatchesReferenceUptoCard

/-- THE SECOND FORM's CARD OF 'tmplpipelaw06.RunesDecodeMatchesReference'. -/
def runesDecodeMatchesReferenceUptoCard : Claim7 := { stood := { row := runesDecodeMatchesReferenceUptoRow, standIns := [], harness := (true, "ed259aa96c56a27741fb337e441ecb79f2cbe2d31b9ee556943b657443d97983"), looks := false }, kinds := [], alts := [], laidByText := true, laidKinds := [.data, .pinned], laidTests := true, laidLooks := .later }
def RunesDecodeMatchesReferenceUptoCardSaid : Prop := Claim7.holds Tryd.pinned (.plain (OpenSpec.upto runesDecodeMatchesReferenceSpec)) runesDecodeMatchesReferenceUptoCard

/-- THE SECOND FORM's CARD OF 'tmplpipelaw06.RunesConcatenation'. -/
def runesConcatenationUptoCard : Claim7 := { stood := { row := runesConcatenationUptoRow, standIns := [], harness := (true, "ed259aa96c56a27741fb337e441ecb79f2cbe2d31b9ee556943b657443d97983"), looks := false }, kinds := [], alts := [], laidByText := true, laidKinds := [.data, .pinned], laidTests := true, laidLooks := .later }
def RunesConcatenationUptoCardSaid : Prop := Claim7.holds Tryd.pinned (.plain (OpenSpec.upto runesConcatenationSpec)) runesConcatenationUptoCard

/-- THE SECOND FORM's CARD OF 'tmplpipelaw06.RunesRoundTrip'. -/
def runesRoundTripUptoCard : Claim7 := { stood := { row := runesRoundTripUptoRow, standIns := [], harness := (true, "ed259aa96c56a27741fb337e441ecb79f2cbe2d31b9ee556943b657443d97983"), looks := false }, kinds := [], alts := [], laidByText := true, laidKinds := [.data, .pinned], laidTests := true, laidLooks := .later }
def RunesRoundTripUptoCardSaid : Prop := Claim7.holds Tryd.pinned (.plain (OpenSpec.upto runesRoundTripSpec)) runesRoundTripUptoCard
end Rows
end Go.Proofs.YtddaadmoibhgbaaDoor
