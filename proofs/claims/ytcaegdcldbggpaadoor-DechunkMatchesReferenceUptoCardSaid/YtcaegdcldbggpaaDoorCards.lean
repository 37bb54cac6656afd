/-
  DERIVED. GIVEN WITH THE SEED: THE CARDS: each row of YtcaegdcldbggpaaDoorRows.lean that lists a variable, with what it lists TIED to the program's text (the seventh form; the later family's looks); each row that meets fmt, with fmt's text TOLD by the authors' own Lean function (tested against real Go, not proved from fmt's source: count such statements apart). THE CARD IS WHAT COUNTS. Prove the row's statement (the work); the ties are given (YtcaegdcldbggpaaDoorTie.lean); close each card by the builder's one call (the guide's Derived/Test/ToyasCard.lean, 'card_holds'). Laid BY PROGRAM, IN A SANDBOX (cutbox-door.mjs). By AI agents, Wed Nov 11 2026. No macro, syntax, notation, axiom, sorry.
-/
import Derived.Test.YtcaegdcldbggpaaDoorRows
import GoSem.ClaimSeven
namespace Go.Proofs.YtcaegdcldbggpaaDoor
namespace Rows

/-- THE TIED CARD OF 'tmplpipelaw05.DechunkDecodeMatchesReference'. -/
def dechunkDecodeMatchesReferenceCard : Claim7 := { stood := { row := dechunkDecodeMatchesReferenceRow, standIns := [], harness := (true, "0707c75ee1d7c283170d7bef6a78cadd30149d206114a83f7899bfbe42d2b643"), looks := false }, kinds := [], alts := [], laidByText := true, laidKinds := [.data, .pinned], laidTests := true, laidLooks := .later }
def DechunkDecodeMatchesReferenceCardSaid : Prop := Claim7.holds Tryd.pinned (.plain (OpenSpec.ofChange dechunkDecodeMatchesReferenceSpec)) dechunkDecodeMatchesReferenceCard

/-- THE TIED CARD OF 'tmplpipelaw05.DechunkMatchesReference'. -/
def dechunkMatchesReferenceCard : Claim7 := { stood := { row := dechunkMatchesReferenceRow, standIns := [], harness := (true, "0707c75ee1d7c283170d7bef6a78cadd30149d206114a83f7899bfbe42d2b643"), looks := false }, kinds := [], alts := [], laidByText := true, laidKinds := [.data, .pinned], laidTests := true, laidLooks := .later }
def DechunkMatchesReferenceCardSaid : Prop := Claim7.holds Tryd.pinned (.plain (OpenSpec.ofChange dechunkMatchesReferenceSpec)) dechunkMatchesReferenceCard

/-- THE TIED CARD OF 'tmplpipelaw05.DechunkSplitIrrelevant'. -/
def dechunkSplitIrrelevantCard : Claim7 := { stood := { row := dechunkSplitIrrelevantRow, standIns := [], harness := (true, "0707c75ee1d7c283170d7bef6a78cadd30149d206114a83f7899bfbe42d2b643"), looks := false }, kinds := [], alts := [], laidByText := true, laidKinds := [.data, .pinned], laidTests := true, laidLooks := .later }
def DechunkSplitIrrelevantCardSaid : Prop := Claim7.holds Tryd.pinned (.plain (OpenSpec.ofChange dechunkSplitIrrelevantSpec)) dechunkSplitIrrelevantCard

/-- THE TIED CARD OF 'tmplpipelaw03.HexlineFormatMatchesReference'. -/
def hexlineFormatMatchesReferenceCard : Claim7 := { stood := { row := hexlineFormatMatchesReferenceRow, standIns := [], harness := (true, "0707c75ee1d7c283170d7bef6a78cadd30149d206114a83f7899bfbe42d2b643"), looks := false }, kinds := [], alts := [], laidByText := true, laidKinds := [.data, .data, .data, .data, .pinned], laidTests := true, laidLooks := .later }
def HexlineFormatMatchesReferenceCardSaid : Prop := Claim7.holds Tryd.pinned (.plain (OpenSpec.ofChange hexlineFormatMatchesReferenceSpec)) hexlineFormatMatchesReferenceCard

/-- THE TIED CARD OF 'tmplpipelaw03.HexlineParseMatchesReference'. -/
def hexlineParseMatchesReferenceCard : Claim7 := { stood := { row := hexlineParseMatchesReferenceRow, standIns := [], harness := (true, "0707c75ee1d7c283170d7bef6a78cadd30149d206114a83f7899bfbe42d2b643"), looks := false }, kinds := [], alts := [], laidByText := true, laidKinds := [.data, .data, .data, .data, .pinned], laidTests := true, laidLooks := .later }
def HexlineParseMatchesReferenceCardSaid : Prop := Claim7.holds Tryd.pinned (.plain (OpenSpec.ofChange hexlineParseMatchesReferenceSpec)) hexlineParseMatchesReferenceCard

/-- THE TIED CARD OF 'tmplpipelaw03.HexlineRoundTrip'. -/
def hexlineRoundTripCard : Claim7 := { stood := { row := hexlineRoundTripRow, standIns := [], harness := (true, "0707c75ee1d7c283170d7bef6a78cadd30149d206114a83f7899bfbe42d2b643"), looks := false }, kinds := [], alts := [], laidByText := true, laidKinds := [.data, .data, .data, .data, .pinned], laidTests := true, laidLooks := .later }
def HexlineRoundTripCardSaid : Prop := Claim7.holds Tryd.pinned (.plain (OpenSpec.ofChange hexlineRoundTripSpec)) hexlineRoundTripCard

/-- THE TIED CARD OF 'tmplpipelaw03.HexlineIsCanonical'. -/
def hexlineIsCanonicalCard : Claim7 := { stood := { row := hexlineIsCanonicalRow, standIns := [], harness := (true, "0707c75ee1d7c283170d7bef6a78cadd30149d206114a83f7899bfbe42d2b643"), looks := false }, kinds := [], alts := [], laidByText := true, laidKinds := [.data, .data, .data, .data, .pinned], laidTests := true, laidLooks := .later }
def HexlineIsCanonicalCardSaid : Prop := Claim7.holds Tryd.pinned (.plain (OpenSpec.ofChange hexlineIsCanonicalSpec)) hexlineIsCanonicalCard

/-- THE TIED CARD OF 'tmplpipelaw03.HexlineOrder'. -/
def hexlineOrderCard : Claim7 := { stood := { row := hexlineOrderRow, standIns := [], harness := (true, "0707c75ee1d7c283170d7bef6a78cadd30149d206114a83f7899bfbe42d2b643"), looks := false }, kinds := [], alts := [], laidByText := true, laidKinds := [.data, .data, .data, .data, .pinned], laidTests := true, laidLooks := .later }
def HexlineOrderCardSaid : Prop := Claim7.holds Tryd.pinned (.plain (OpenSpec.ofChange hexlineOrderSpec)) hexlineOrderCard

/-- THE SECOND FORM's CARD OF 'tmplpipelaw05.DechunkDecodeMatchesReference'. -/
def dechunkDecodeMatchesReferenceUptoCard : Claim7 := { stood := { row := dechunkDecodeMatchesReferenceUptoRow, standIns := [], harness := (true, "0707c75ee1d7c283170d7bef6a78cadd30149d206114a83f7899bfbe42d2b643"), looks := false }, kinds := [], alts := [], laidByText := true, laidKinds := [.data, .pinned], laidTests := true, laidLooks := .later }
def DechunkDecodeMatchesReferenceUptoCardSaid : Prop := Claim7.holds Tryd.pinned (.plain (OpenSpec.upto dechunkDecodeMatchesReferenceSpec)) dechunkDecodeMatchesReferenceUptoCard

/-- THE SECOND FORM's CARD OF 'tmplpipelaw05.DechunkMatchesReference'. -/
def dechunkMatchesReferenceUptoCard : Claim7 := { stood := { row := dechunkMatchesReferenceUptoRow, standIns := [], harness := (true, "0707c75ee1d7c283170d7bef6a78cadd30149d206114a83f7899bfbe42d2b643"), looks := false }, kinds := [], alts := [], laidByText := true, laidKinds := [.data, .pinned], laidTests := true, laidLooks := .later }
def DechunkMatchesReferenceUptoCardSaid : Prop := Claim7.holds Tryd.pinned (.plain (OpenSpec.upto dechunkMatchesReferenceSpec)) dechunkMatchesReferenceUptoCard

/-- THE SECOND FORM's CARD OF 'tmplpipelaw05.DechunkSplitIrrelevant'. -/
def dechunkSplitIrrelevantUptoCard : Claim7 := { stood := { row := dechunkSplitIrrelevantUptoRow, standIns := [], harness := (true, "0707c75ee1d7c283170d7bef6a78cadd30149d206114a83f7899bfbe42d2b643"), looks := false }, kinds := [], alts := [], laidByText := true, laidKinds := [.data, .pinned], laidTests := true, laidLooks := .later }
def DechunkSplitIrrelevantUptoCardSaid : Prop := Claim7.holds Tryd.pinned (.plain (OpenSpec.upto dechunkSplitIrrelevantSpec)) dechunkSplitIrrelevantUptoCard

/-- THE SECOND FORM's CARD OF 'tmplpipelaw03.HexlineFormatMatchesReference'. -/
def hexlineFormatMatchesReferenceUptoCard : Claim7 := { stood := { row := hexlineFormatMatchesReferenceUptoRow, standIns := [], harness := (true, "0707c75ee1d7c283170d7bef6a78cadd30149d206114a83f7899bfbe42d2b643"), looks := false }, kinds := [], alts := [], laidByText := true, laidKinds := [.data, .data, .data, .data, .pinned], laidTests := true, laidLooks := .later }
def HexlineFormatMatchesReferenceUptoCardSaid : Prop := Claim7.holds Tryd.pinned (.plain (OpenSpec.upto hexlineFormatMatchesReferenceSpec)) hexlineFormatMatchesReferenceUptoCard

/-- THE SECOND FORM's CARD OF 'tmplpipelaw03.HexlineParseMatchesReference'. -/
def hexlineParseMatchesReferenceUptoCard : Claim7 := { stood := { row := hexlineParseMatchesReferenceUptoRow, standIns := [], harness := (true, "0707c75ee1d7c283170d7bef6a78cadd30149d206114a83f7899bfbe42d2b643"), looks := false }, kinds := [], alts := [], laidByText := true, laidKinds := [.data, .data, .data, .data, .pinned], laidTests := true, laidLooks := .later }
def HexlineParseMatchesReferenceUptoCardSaid : Prop := Claim7.holds Tryd.pinned (.plain (OpenSpec.upto hexlineParseMatchesReferenceSpec)) hexlineParseMatchesReferenceUptoCard

/-- THE SECOND FORM's CARD OF 'tmplpipelaw03.HexlineRoundTrip'. -/
def hexlineRoundTripUptoCard : Claim7 := { stood := { row := hexlineRoundTripUptoRow, standIns := [], harness := (true, "0707c75ee1d7c283170d7bef6a78cadd30149d206114a83f7899bfbe42d2b643"), looks := false }, kinds := [], alts := [], laidByText := true, laidKinds := [.data, .data, .data, .data, .pinned], laidTests := true, laidLooks := .later }
def HexlineRoundTripUptoCardSaid : Prop := Claim7.holds Tryd.pinned (.plain (OpenSpec.upto hexlineRoundTripSpec)) hexlineRoundTripUptoCard

/-- THE SECOND FORM's CARD OF 'tmplpipelaw03.HexlineIsCanonical'. -/
def hexlineIsCanonicalUptoCard : Claim7 := { stood := { row := hexlineIsCanonicalUptoRow, standIns := [], harness := (true, "0707c75ee1d7c283170d7bef6a78cadd30149d206114a83f7899bfbe42d2b643"), looks := false }, kinds := [], alts := [], laidByText := true, laidKinds := [.data, .data, .data, .data, .pinned], laidTests := true, laidLooks := .later }
def HexlineIsCanonicalUptoCardSaid : Prop := Claim7.holds Tryd.pinned (.plain (OpenSpec.upto hexlineIsCanonicalSpec)) hexlineIsCanonicalUptoCard

/-- THE SECOND FORM's CARD OF 'tmplpipelaw03.HexlineOrder'. -/
def hexlineOrderUptoCard : Claim7 := { stood := { row := hexlineOrderUptoRow, standIns := [], harness := (true, "0707c75ee1d7c283170d7bef6a78cadd30149d206114a83f7899bfbe42d2b643"), looks := false }, kinds := [], alts := [], laidByText := true, laidKinds := [.data, .data, .data, .data, .pinned], laidTests := true, laidLooks := .later }
def HexlineOrderUptoCardSaid : Prop := Claim7.holds Tryd.pinned (.plain (OpenSpec.upto hexlineOrderSpec)) hexlineOrderUptoCard
end Rows
end Go.Proofs.YtcaegdcldbggpaaDoor
