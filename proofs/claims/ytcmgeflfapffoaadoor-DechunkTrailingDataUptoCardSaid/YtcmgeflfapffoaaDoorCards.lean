/-
  DERIVED. GIVEN WITH THE SEED: THE CARDS: each row of YtcmgeflfapffoaaDoorRows.lean that lists a variable, with what it lists TIED to the program's text (the seventh form; the later family's looks); each row that meets fmt, with fmt's text TOLD by the authors' own Lean function (tested against real Go, not proved from fmt's source: count such statements apart). THE CARD IS WHAT COUNTS. Prove the row's statement (the work); the ties are given (YtcmgeflfapffoaaDoorTie.lean); close each card by the builder's one call (the guide's Derived/Test/ToyasCard.lean, 'card_holds'). Laid BY PROGRAM, IN A SANDBOX (cutbox-door.mjs). By AI agents, Wed Nov 11 2026. No macro, syntax, notation, axiom, sorry.
-/
import Derived.Test.YtcmgeflfapffoaaDoorRows
import GoSem.ClaimSeven
namespace Go.Proofs.YtcmgeflfapffoaaDoor
namespace Rows

/-- THE TIED CARD OF 'tmplpipelaw04.FramerEncodeMatchesReference'. -/
def framerEncodeMatchesReferenceCard : Claim7 := { stood := { row := framerEncodeMatchesReferenceRow, standIns := [], harness := (true, "d2f472687ad6ce48be7d121820b51eb11535994afdac0521702fb197988857e1"), looks := false }, kinds := [], alts := [], laidByText := true, laidKinds := [.data, .data, .data], laidTests := true, laidLooks := .later }
def FramerEncodeMatchesReferenceCardSaid : Prop := Claim7.holds Tryd.pinned (.plain (OpenSpec.ofChange framerEncodeMatchesReferenceSpec)) framerEncodeMatchesReferenceCard

/-- THE TIED CARD OF 'tmplpipelaw04.FramerIsolated'. -/
def framerIsolatedCard : Claim7 := { stood := { row := framerIsolatedRow, standIns := [], harness := (true, "d2f472687ad6ce48be7d121820b51eb11535994afdac0521702fb197988857e1"), looks := false }, kinds := [], alts := [], laidByText := true, laidKinds := [.data, .data, .data], laidTests := true, laidLooks := .later }
def FramerIsolatedCardSaid : Prop := Claim7.holds Tryd.pinned (.plain (OpenSpec.ofChange framerIsolatedSpec)) framerIsolatedCard

/-- THE TIED CARD OF 'tmplpipelaw04.FramerEncodeLength'. -/
def framerEncodeLengthCard : Claim7 := { stood := { row := framerEncodeLengthRow, standIns := [], harness := (true, "d2f472687ad6ce48be7d121820b51eb11535994afdac0521702fb197988857e1"), looks := false }, kinds := [], alts := [], laidByText := true, laidKinds := [.data, .data, .data], laidTests := true, laidLooks := .later }
def FramerEncodeLengthCardSaid : Prop := Claim7.holds Tryd.pinned (.plain (OpenSpec.ofChange framerEncodeLengthSpec)) framerEncodeLengthCard

/-- THE TIED CARD OF 'tmplpipelaw04.FramerMatchesReference'. -/
def framerMatchesReferenceCard : Claim7 := { stood := { row := framerMatchesReferenceRow, standIns := [], harness := (true, "d2f472687ad6ce48be7d121820b51eb11535994afdac0521702fb197988857e1"), looks := false }, kinds := [], alts := [], laidByText := true, laidKinds := [.data, .data, .data], laidTests := true, laidLooks := .later }
def FramerMatchesReferenceCardSaid : Prop := Claim7.holds Tryd.pinned (.plain (OpenSpec.ofChange framerMatchesReferenceSpec)) framerMatchesReferenceCard

/-- THE TIED CARD OF 'tmplpipelaw04.FramerPiecesIrrelevant'. -/
def framerPiecesIrrelevantCard : Claim7 := { stood := { row := framerPiecesIrrelevantRow, standIns := [], harness := (true, "d2f472687ad6ce48be7d121820b51eb11535994afdac0521702fb197988857e1"), looks := false }, kinds := [], alts := [], laidByText := true, laidKinds := [.data, .data, .data], laidTests := true, laidLooks := .later }
def FramerPiecesIrrelevantCardSaid : Prop := Claim7.holds Tryd.pinned (.plain (OpenSpec.ofChange framerPiecesIrrelevantSpec)) framerPiecesIrrelevantCard

/-- THE TIED CARD OF 'tmplpipelaw04.FramerBusy'. -/
def framerBusyCard : Claim7 := { stood := { row := framerBusyRow, standIns := [], harness := (true, "d2f472687ad6ce48be7d121820b51eb11535994afdac0521702fb197988857e1"), looks := false }, kinds := [], alts := [], laidByText := true, laidKinds := [.data, .data, .data], laidTests := true, laidLooks := .later }
def FramerBusyCardSaid : Prop := Claim7.holds Tryd.pinned (.plain (OpenSpec.ofChange framerBusySpec)) framerBusyCard

/-- THE TIED CARD OF 'tmplpipelaw05.DechunkInvertsFramer'. -/
def dechunkInvertsFramerCard : Claim7 := { stood := { row := dechunkInvertsFramerRow, standIns := [], harness := (true, "d2f472687ad6ce48be7d121820b51eb11535994afdac0521702fb197988857e1"), looks := false }, kinds := [], alts := [], laidByText := true, laidKinds := [.data, .data, .data, .data, .pinned], laidTests := true, laidLooks := .later }
def DechunkInvertsFramerCardSaid : Prop := Claim7.holds Tryd.pinned (.plain (OpenSpec.ofChange dechunkInvertsFramerSpec)) dechunkInvertsFramerCard

/-- THE TIED CARD OF 'tmplpipelaw05.DechunkTrailingData'. -/
def dechunkTrailingDataCard : Claim7 := { stood := { row := dechunkTrailingDataRow, standIns := [], harness := (true, "d2f472687ad6ce48be7d121820b51eb11535994afdac0521702fb197988857e1"), looks := false }, kinds := [], alts := [], laidByText := true, laidKinds := [.data, .data, .data, .data, .pinned], laidTests := true, laidLooks := .later }
def DechunkTrailingDataCardSaid : Prop := Claim7.holds Tryd.pinned (.plain (OpenSpec.ofChange dechunkTrailingDataSpec)) dechunkTrailingDataCard

/-- THE SECOND FORM's CARD OF 'tmplpipelaw04.FramerEncodeMatchesReference'. -/
def framerEncodeMatchesReferenceUptoCard : Claim7 := { stood := { row := framerEncodeMatchesReferenceUptoRow, standIns := [], harness := (true, "d2f472687ad6ce48be7d121820b51eb11535994afdac0521702fb197988857e1"), looks := false }, kinds := [], alts := [], laidByText := true, laidKinds := [.data, .data, .data], laidTests := true, laidLooks := .later }
def FramerEncodeMatchesReferenceUptoCardSaid : Prop := Claim7.holds Tryd.pinned (.plain (OpenSpec.upto framerEncodeMatchesReferenceSpec)) framerEncodeMatchesReferenceUptoCard

/-- THE SECOND FORM's CARD OF 'tmplpipelaw04.FramerIsolated'. -/
def framerIsolatedUptoCard : Claim7 := { stood := { row := framerIsolatedUptoRow, standIns := [], harness := (true, "d2f472687ad6ce48be7d121820b51eb11535994afdac0521702fb197988857e1"), looks := false }, kinds := [], alts := [], laidByText := true, laidKinds := [.data, .data, .data], laidTests := true, laidLooks := .later }
def FramerIsolatedUptoCardSaid : Prop := Claim7.holds Tryd.pinned (.plain (OpenSpec.upto framerIsolatedSpec)) framerIsolatedUptoCard

/-- THE SECOND FORM's CARD OF 'tmplpipelaw04.FramerEncodeLength'. -/
def framerEncodeLengthUptoCard : Claim7 := { stood := { row := framerEncodeLengthUptoRow, standIns := [], harness := (true, "d2f472687ad6ce48be7d121820b51eb11535994afdac0521702fb197988857e1"), looks := false }, kinds := [], alts := [], laidByText := true, laidKinds := [.data, .data, .data], laidTests := true, laidLooks := .later }
def FramerEncodeLengthUptoCardSaid : Prop := Claim7.holds Tryd.pinned (.plain (OpenSpec.upto framerEncodeLengthSpec)) framerEncodeLengthUptoCard

/-- THE SECOND FORM's CARD OF 'tmplpipelaw04.FramerMatchesReference'. -/
def framerMatchesReferenceUptoCard : Claim7 := { stood := { row := framerMatchesReferenceUptoRow, standIns := [], harness := (true, "d2f472687ad6ce48be7d121820b51eb11535994afdac0521702fb197988857e1"), looks := false }, kinds := [], alts := [], laidByText := true, laidKinds := [.data, .data, .data], laidTests := true, laidLooks := .later }
def FramerMatchesReferenceUptoCardSaid : Prop := Claim7.holds Tryd.pinned (.plain (OpenSpec.upto framerMatchesReferenceSpec)) framerMatchesReferenceUptoCard

/-- THE SECOND FORM's CARD OF 'tmplpipelaw04.FramerPiecesIrrelevant'. -/
def framerPiecesIrrelevantUptoCard : Claim7 := { stood := { row := framerPiecesIrrelevantUptoRow, standIns := [], harness := (true, "d2f472687ad6ce48be7d121820b51eb11535994afdac0521702fb197988857e1"), looks := false }, kinds := [], alts := [], laidByText := true, laidKinds := [.data, .data, .data], laidTests := true, laidLooks := .later }
def FramerPiecesIrrelevantUptoCardSaid : Prop := Claim7.holds Tryd.pinned (.plain (OpenSpec.upto framerPiecesIrrelevantSpec)) framerPiecesIrrelevantUptoCard

/-- THE SECOND FORM's CARD OF 'tmplpipelaw04.FramerBusy'. -/
def framerBusyUptoCard : Claim7 := { stood := { row := framerBusyUptoRow, standIns := [], harness := (true, "d2f472687ad6ce48be7d121820b51eb11535994afdac0521702fb197988857e1"), looks := false }, kinds := [], alts := [], laidByText := true, laidKinds := [.data, .data, .data], laidTests := true, laidLooks := .later }
def FramerBusyUptoCardSaid : Prop := Claim7.holds Tryd.pinned (.plain (OpenSpec.upto framerBusySpec)) framerBusyUptoCard

/-- THE SECOND FORM's CARD OF 'tmplpipelaw05.DechunkInvertsFramer'. -/
def dechunkInvertsFramerUptoCard : Claim7 := { stood := { row := dechunkInvertsFramerUptoRow, standIns := [], harness := (true, "d2f472687ad6ce48be7d121820b51eb11535994afdac0521702fb197988857e1"), looks := false }, kinds := [], alts := [], laidByText := true, laidKinds := [.data, .data, .data, .data, .pinned], laidTests := true, laidLooks := .later }
def DechunkInvertsFramerUptoCardSaid : Prop := Claim7.holds Tryd.pinned (.plain (OpenSpec.upto dechunkInvertsFramerSpec)) dechunkInvertsFramerUptoCard

/-- THE SECOND FORM's CARD OF 'tmplpipelaw05.DechunkTrailingData'. -/
def dechunkTrailingDataUptoCard : Claim7 := { stood := { row := dechunkTrailingDataUptoRow, standIns := [], harness := (true, "d2f472687ad6ce48be7d121820b51eb11535994afdac0521702fb197988857e1"), looks := false }, kinds := [], alts := [], laidByText := true, laidKinds := [.data, .data, .data, .data, .pinned], laidTests := true, laidLooks := .later }
def DechunkTrailingDataUptoCardSaid : Prop := Claim7.holds Tryd.pinned (.plain (OpenSpec.upto dechunkTrailingDataSpec)) dechunkTrailingDataUptoCard
end Rows
end Go.Proofs.YtcmgeflfapffoaaDoor
