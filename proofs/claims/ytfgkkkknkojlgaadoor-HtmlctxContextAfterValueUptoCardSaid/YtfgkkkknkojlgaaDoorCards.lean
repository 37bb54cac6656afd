/-
  DERIVED. GIVEN WITH THE SEED: THE CARDS: each row of YtfgkkkknkojlgaaDoorRows.lean that lists a variable, with what it lists TIED to the program's text (the seventh form; the later family's looks); each row that meets fmt, with fmt's text TOLD by the authors' own Lean function (tested against real Go, not proved from fmt's source: count such statements apart). THE CARD IS WHAT COUNTS. Prove the row's statement (the work); the ties are given (YtfgkkkknkojlgaaDoorTie.lean); close each card by the builder's one call (the guide's Derived/Test/ToyasCard.lean, 'card_holds'). Laid BY PROGRAM, IN A SANDBOX (cutbox-door.mjs). By AI agents, Wed Nov 11 2026. No macro, syntax, notation, axiom, sorry.
-/
import Derived.Test.YtfgkkkknkojlgaaDoorRows
import GoSem.ClaimSeven
namespace Go.Proofs.YtfgkkkknkojlgaaDoor
namespace Rows

/-- THE TIED CARD OF 'tmplpipelaw15.HtmlctxEscapedStays'. -/
def htmlctxEscapedStaysCard : Claim7 := { stood := { row := htmlctxEscapedStaysRow, standIns := [], harness := (true, "f7049c9494ba06374cf36de2337c4f2cb460226fa796dbeb437b861d4e4a1b08"), looks := false }, kinds := [], alts := [], laidByText := true, laidKinds := [.data, .data, .data], laidTests := true, laidLooks := .later }
def HtmlctxEscapedStaysCardSaid : Prop := Claim7.holds Tryd.pinned (.plain (OpenSpec.ofChange htmlctxEscapedStaysSpec)) htmlctxEscapedStaysCard

/-- THE TIED CARD OF 'tmplpipelaw15.HtmlctxContextAfterValue'. -/
def htmlctxContextAfterValueCard : Claim7 := { stood := { row := htmlctxContextAfterValueRow, standIns := [], harness := (true, "f7049c9494ba06374cf36de2337c4f2cb460226fa796dbeb437b861d4e4a1b08"), looks := false }, kinds := [], alts := [], laidByText := true, laidKinds := [.data, .data, .data], laidTests := true, laidLooks := .later }
def HtmlctxContextAfterValueCardSaid : Prop := Claim7.holds Tryd.pinned (.plain (OpenSpec.ofChange htmlctxContextAfterValueSpec)) htmlctxContextAfterValueCard

/-- THE SECOND FORM's CARD OF 'tmplpipelaw15.HtmlctxEscapedStays'. -/
def htmlctxEscapedStaysUptoCard : Claim7 := { stood := { row := htmlctxEscapedStaysUptoRow, standIns := [], harness := (true, "f7049c9494ba06374cf36de2337c4f2cb460226fa796dbeb437b861d4e4a1b08"), looks := false }, kinds := [], alts := [], laidByText := true, laidKinds := [.data, .data, .data], laidTests := true, laidLooks := .later }
def HtmlctxEscapedStaysUptoCardSaid : Prop := Claim7.holds Tryd.pinned (.plain (OpenSpec.upto htmlctxEscapedStaysSpec)) htmlctxEscapedStaysUptoCard

/-- THE SECOND FORM's CARD OF 'tmplpipelaw15.HtmlctxContextAfterValue'. -/
def htmlctxContextAfterValueUptoCard : Claim7 := { stood := { row := htmlctxContextAfterValueUptoRow, standIns := [], harness := (true, "f7049c9494ba06374cf36de2337c4f2cb460226fa796dbeb437b861d4e4a1b08"), looks := false }, kinds := [], alts := [], laidByText := true, laidKinds := [.data, .data, .data], laidTests := true, laidLooks := .later }
def HtmlctxContextAfterValueUptoCardSaid : Prop := Claim7.holds Tryd.pinned (.plain (OpenSpec.upto htmlctxContextAfterValueSpec)) htmlctxContextAfterValueUptoCard
end Rows
end Go.Proofs.YtfgkkkknkojlgaaDoor
