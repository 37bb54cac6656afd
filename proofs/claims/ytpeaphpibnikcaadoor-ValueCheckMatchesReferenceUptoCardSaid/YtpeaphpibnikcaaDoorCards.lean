/-
  DERIVED. GIVEN WITH THE SEED: THE CARDS: each row of YtpeaphpibnikcaaDoorRows.lean that lists a variable, with what it lists TIED to the program's text (the seventh form; the later family's looks); each row that meets fmt, with fmt's text TOLD by the authors' own Lean function (tested against real Go, not proved from fmt's source: count such statements apart). THE CARD IS WHAT COUNTS. Prove the row's statement (the work); the ties are given (YtpeaphpibnikcaaDoorTie.lean); close each card by the builder's one call (the guide's Derived/Test/ToyasCard.lean, 'card_holds'). Laid BY PROGRAM, IN A SANDBOX (cutbox-door.mjs). By AI agents, Wed Nov 11 2026. No macro, syntax, notation, axiom, sorry.
-/
import Derived.Test.YtpeaphpibnikcaaDoorRows
import GoSem.ClaimSeven
namespace Go.Proofs.YtpeaphpibnikcaaDoor
namespace Rows

/-- THE TIED CARD OF 'tmplpipelaw09.ValueLookupMatchesReference'. -/
def valueLookupMatchesReferenceCard : Claim7 := { stood := { row := valueLookupMatchesReferenceRow, standIns := [], harness := (true, "0df317a5842921cef3261d2337450a33747e8947c27b2f35284d14bbd97f6af1"), looks := true }, kinds := [], alts := [], laidByText := true, laidKinds := [.data, .pinned], laidTests := true, laidLooks := .later }
def ValueLookupMatchesReferenceCardSaid : Prop := Claim7.holds Tryd.pinned (.plain (OpenSpec.ofChange valueLookupMatchesReferenceSpec)) valueLookupMatchesReferenceCard

/-- THE TIED CARD OF 'tmplpipelaw09.ValueLookupComposes'. -/
def valueLookupComposesCard : Claim7 := { stood := { row := valueLookupComposesRow, standIns := [], harness := (true, "0df317a5842921cef3261d2337450a33747e8947c27b2f35284d14bbd97f6af1"), looks := true }, kinds := [], alts := [], laidByText := true, laidKinds := [.data, .pinned], laidTests := true, laidLooks := .later }
def ValueLookupComposesCardSaid : Prop := Claim7.holds Tryd.pinned (.plain (OpenSpec.ofChange valueLookupComposesSpec)) valueLookupComposesCard

/-- THE TIED CARD OF 'tmplpipelaw09.ValueNamesMatchReference'. -/
def valueNamesMatchReferenceCard : Claim7 := { stood := { row := valueNamesMatchReferenceRow, standIns := [], harness := (true, "0df317a5842921cef3261d2337450a33747e8947c27b2f35284d14bbd97f6af1"), looks := true }, kinds := [], alts := [], laidByText := true, laidKinds := [.data, .pinned], laidTests := true, laidLooks := .later }
def ValueNamesMatchReferenceCardSaid : Prop := Claim7.holds Tryd.pinned (.plain (OpenSpec.ofChange valueNamesMatchReferenceSpec)) valueNamesMatchReferenceCard

/-- THE TIED CARD OF 'tmplpipelaw09.ValueCheckMatchesReference'. -/
def valueCheckMatchesReferenceCard : Claim7 := { stood := { row := valueCheckMatchesReferenceRow, standIns := [], harness := (true, "0df317a5842921cef3261d2337450a33747e8947c27b2f35284d14bbd97f6af1"), looks := true }, kinds := [], alts := [], laidByText := true, laidKinds := [.data, .data, .data, .data, .pinned], laidTests := true, laidLooks := .later }
def ValueCheckMatchesReferenceCardSaid : Prop := Claim7.holds Tryd.pinned (.plain (OpenSpec.ofChange valueCheckMatchesReferenceSpec)) valueCheckMatchesReferenceCard

/-- THE TIED CARD OF 'tmplpipelaw09.ValueFromRejects'. -/
def valueFromRejectsCard : Claim7 := { stood := { row := valueFromRejectsRow, standIns := [], harness := (true, "0df317a5842921cef3261d2337450a33747e8947c27b2f35284d14bbd97f6af1"), looks := true }, kinds := [], alts := [], laidByText := true, laidKinds := [.data, .pinned], laidTests := true, laidLooks := .later }
def ValueFromRejectsCardSaid : Prop := Claim7.holds Tryd.pinned (.plain (OpenSpec.ofChange valueFromRejectsSpec)) valueFromRejectsCard

/-- THE TIED CARD OF 'tmplpipelaw09.ValueConversion'. -/
def valueConversionCard : Claim7 := { stood := { row := valueConversionRow, standIns := [], harness := (true, "0df317a5842921cef3261d2337450a33747e8947c27b2f35284d14bbd97f6af1"), looks := true }, kinds := [], alts := [], laidByText := true, laidKinds := [.data, .pinned], laidTests := true, laidLooks := .later }
def ValueConversionCardSaid : Prop := Claim7.holds Tryd.pinned (.plain (OpenSpec.ofChange valueConversionSpec)) valueConversionCard

/-- THE SECOND FORM's CARD OF 'tmplpipelaw09.ValueLookupMatchesReference'. -/
def valueLookupMatchesReferenceUptoCard : Claim7 := { stood := { row := valueLookupMatchesReferenceUptoRow, standIns := [], harness := (true, "0df317a5842921cef3261d2337450a33747e8947c27b2f35284d14bbd97f6af1"), looks := true }, kinds := [], alts := [], laidByText := true, laidKinds := [.data, .pinned], laidTests := true, laidLooks := .later }
def ValueLookupMatchesReferenceUptoCardSaid : Prop := Claim7.holds Tryd.pinned (.plain (OpenSpec.upto valueLookupMatchesReferenceSpec)) valueLookupMatchesReferenceUptoCard

/-- THE SECOND FORM's CARD OF 'tmplpipelaw09.ValueLookupComposes'. -/
def valueLookupComposesUptoCard : Claim7 := { stood := { row := valueLookupComposesUptoRow, standIns := [], harness := (true, "0df317a5842921cef3261d2337450a33747e8947c27b2f35284d14bbd97f6af1"), looks := true }, kinds := [], alts := [], laidByText := true, laidKinds := [.data, .pinned], laidTests := true, laidLooks := .later }
def ValueLookupComposesUptoCardSaid : Prop := Claim7.holds Tryd.pinned (.plain (OpenSpec.upto valueLookupComposesSpec)) valueLookupComposesUptoCard

/-- THE SECOND FORM's CARD OF 'tmplpipelaw09.ValueNamesMatchReference'. -/
def valueNamesMatchReferenceUptoCard : Claim7 := { stood := { row := valueNamesMatchReferenceUptoRow, standIns := [], harness := (true, "0df317a5842921cef3261d2337450a33747e8947c27b2f35284d14bbd97f6af1"), looks := true }, kinds := [], alts := [], laidByText := true, laidKinds := [.data, .pinned], laidTests := true, laidLooks := .later }
def ValueNamesMatchReferenceUptoCardSaid : Prop := Claim7.holds Tryd.pinned (.plain (OpenSpec.upto valueNamesMatchReferenceSpec)) valueNamesMatchReferenceUptoCard

/-- THE SECOND FORM's CARD OF 'tmplpipelaw09.ValueCheckMatchesReference'. -/
def valueCheckMatchesReferenceUptoCard : Claim7 := { stood := { row := valueCheckMatchesReferenceUptoRow, standIns := [], harness := (true, "0df317a5842921cef3261d2337450a33747e8947c27b2f35284d14bbd97f6af1"), looks := true }, kinds := [], alts := [], laidByText := true, laidKinds := [.data, .data, .data, .data, .pinned], laidTests := true, laidLooks := .later }
def ValueCheckMatchesReferenceUptoCardSaid : Prop := Claim7.holds Tryd.pinned (.plain (OpenSpec.upto valueCheckMatchesReferenceSpec)) valueCheckMatchesReferenceUptoCard

/-- THE SECOND FORM's CARD OF 'tmplpipelaw09.ValueFromRejects'. -/
def valueFromRejectsUptoCard : Claim7 := { stood := { row := valueFromRejectsUptoRow, standIns := [], harness := (true, "0df317a5842921cef3261d2337450a33747e8947c27b2f35284d14bbd97f6af1"), looks := true }, kinds := [], alts := [], laidByText := true, laidKinds := [.data, .pinned], laidTests := true, laidLooks := .later }
def ValueFromRejectsUptoCardSaid : Prop := Claim7.holds Tryd.pinned (.plain (OpenSpec.upto valueFromRejectsSpec)) valueFromRejectsUptoCard

/-- THE SECOND FORM's CARD OF 'tmplpipelaw09.ValueConversion'. -/
def valueConversionUptoCard : Claim7 := { stood := { row := valueConversionUptoRow, standIns := [], harness := (true, "0df317a5842921cef3261d2337450a33747e8947c27b2f35284d14bbd97f6af1"), looks := true }, kinds := [], alts := [], laidByText := true, laidKinds := [.data, .pinned], laidTests := true, laidLooks := .later }
def ValueConversionUptoCardSaid : Prop := Claim7.holds Tryd.pinned (.plain (OpenSpec.upto valueConversionSpec)) valueConversionUptoCard
end Rows
end Go.Proofs.YtpeaphpibnikcaaDoor
