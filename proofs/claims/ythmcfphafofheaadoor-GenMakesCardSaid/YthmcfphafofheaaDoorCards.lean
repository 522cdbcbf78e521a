/-
  DERIVED. GIVEN WITH THE SEED: THE CARDS: each row of YthmcfphafofheaaDoorRows.lean that lists a variable, with what it lists TIED to the program's text (the seventh form; the later family's looks); each row that meets fmt, with fmt's text TOLD by the authors' own Lean function (tested against real Go, not proved from fmt's source: count such statements apart). THE CARD IS WHAT COUNTS. Prove the row's statement (the work); the ties are given (YthmcfphafofheaaDoorTie.lean); close each card by the builder's one call (the guide's Derived/Test/ToyasCard.lean, 'card_holds'). Laid BY PROGRAM, IN A SANDBOX (cutbox-door.mjs). By AI agents, Wed Nov 11 2026. No macro, syntax, notation, axiom, sorry.
-/
import Derived.Test.YthmcfphafofheaaDoorRows
import GoSem.ClaimSeven
namespace Go.Proofs.YthmcfphafofheaaDoor
namespace Rows

/-- THE TIED CARD OF 'patoislaw23.GenGreat'. -/
def genGreatCard : Claim7 := { stood := { row := genGreatRow, standIns := [], harness := (true, "051491a8fa4edf4c15b04ad67d6b6b052b6905ff3715cd384c7eab002fde19bd"), looks := true }, kinds := [], alts := [], laidByText := true, laidKinds := [.sentinel, .sentinel, .sentinel, .sentinel], laidTests := true, laidLooks := .later }
def GenGreatCardSaid : Prop := Claim7.holds Tryd.pinned (.plain (OpenSpec.ofChange genGreatSpec)) genGreatCard

/-- THE TIED CARD OF 'patoislaw17.ConstsAgain'. -/
def constsAgainCard : Claim7 := { stood := { row := constsAgainRow, standIns := [], harness := (true, "051491a8fa4edf4c15b04ad67d6b6b052b6905ff3715cd384c7eab002fde19bd"), looks := true }, kinds := [], alts := [], laidByText := true, laidKinds := [.sentinel, .sentinel, .sentinel], laidTests := true, laidLooks := .later }
def ConstsAgainCardSaid : Prop := Claim7.holds Tryd.pinned (.plain (OpenSpec.ofChange constsAgainSpec)) constsAgainCard

/-- THE TIED CARD OF 'patoislaw17.ConstsTexts'. -/
def constsTextsCard : Claim7 := { stood := { row := constsTextsRow, standIns := [], harness := (true, "051491a8fa4edf4c15b04ad67d6b6b052b6905ff3715cd384c7eab002fde19bd"), looks := true }, kinds := [], alts := [], laidByText := true, laidKinds := [.sentinel, .sentinel, .sentinel], laidTests := true, laidLooks := .later }
def ConstsTextsCardSaid : Prop := Claim7.holds Tryd.pinned (.plain (OpenSpec.ofChange constsTextsSpec)) constsTextsCard

/-- THE TIED CARD OF 'patoislaw23.GenMakes'. -/
def genMakesCard : Claim7 := { stood := { row := genMakesRow, standIns := [], harness := (true, "051491a8fa4edf4c15b04ad67d6b6b052b6905ff3715cd384c7eab002fde19bd"), looks := true }, kinds := [], alts := [], laidByText := true, laidKinds := [.sentinel, .sentinel, .sentinel, .sentinel, .sentinel, .sentinel, .sentinel, .sentinel, .sentinel, .sentinel, .sentinel, .sentinel, .sentinel, .sentinel, .sentinel, .sentinel, .sentinel], laidTests := true, laidLooks := .later }
def GenMakesCardSaid : Prop := Claim7.holds Tryd.pinned (.plain (OpenSpec.ofChange genMakesSpec)) genMakesCard

/-- THE TIED CARD OF 'patoislaw24.ThreadJumps'. -/
def threadJumpsCard : Claim7 := { stood := { row := threadJumpsRow, standIns := [], harness := (true, "051491a8fa4edf4c15b04ad67d6b6b052b6905ff3715cd384c7eab002fde19bd"), looks := true }, kinds := [], alts := [], laidByText := true, laidKinds := [.sentinel, .sentinel], laidTests := true, laidLooks := .later }
def ThreadJumpsCardSaid : Prop := Claim7.holds Tryd.pinned (.plain (OpenSpec.ofChange threadJumpsSpec)) threadJumpsCard

/-- THE TIED CARD OF 'patoislaw24.ThreadReach'. -/
def threadReachCard : Claim7 := { stood := { row := threadReachRow, standIns := [], harness := (true, "051491a8fa4edf4c15b04ad67d6b6b052b6905ff3715cd384c7eab002fde19bd"), looks := true }, kinds := [], alts := [], laidByText := true, laidKinds := [.sentinel, .sentinel], laidTests := true, laidLooks := .later }
def ThreadReachCardSaid : Prop := Claim7.holds Tryd.pinned (.plain (OpenSpec.ofChange threadReachSpec)) threadReachCard

/-- THE TIED CARD OF 'patoislaw19.InlineOwn'. -/
def inlineOwnCard : Claim7 := { stood := { row := inlineOwnRow, standIns := [], harness := (true, "051491a8fa4edf4c15b04ad67d6b6b052b6905ff3715cd384c7eab002fde19bd"), looks := true }, kinds := [], alts := [], laidByText := true, laidKinds := [.sentinel, .sentinel, .sentinel], laidTests := true, laidLooks := .later }
def InlineOwnCardSaid : Prop := Claim7.holds Tryd.pinned (.plain (OpenSpec.ofChange inlineOwnSpec)) inlineOwnCard

/-- THE TIED CARD OF 'patoislaw19.InlineKnown'. -/
def inlineKnownCard : Claim7 := { stood := { row := inlineKnownRow, standIns := [], harness := (true, "051491a8fa4edf4c15b04ad67d6b6b052b6905ff3715cd384c7eab002fde19bd"), looks := true }, kinds := [], alts := [], laidByText := true, laidKinds := [.sentinel, .sentinel, .sentinel], laidTests := true, laidLooks := .later }
def InlineKnownCardSaid : Prop := Claim7.holds Tryd.pinned (.plain (OpenSpec.ofChange inlineKnownSpec)) inlineKnownCard

/-- THE TIED CARD OF 'patoislaw19.InlineStays'. -/
def inlineStaysCard : Claim7 := { stood := { row := inlineStaysRow, standIns := [], harness := (true, "051491a8fa4edf4c15b04ad67d6b6b052b6905ff3715cd384c7eab002fde19bd"), looks := true }, kinds := [], alts := [], laidByText := true, laidKinds := [.sentinel, .sentinel, .sentinel], laidTests := true, laidLooks := .later }
def InlineStaysCardSaid : Prop := Claim7.holds Tryd.pinned (.plain (OpenSpec.ofChange inlineStaysSpec)) inlineStaysCard

/-- THE TIED CARD OF 'patoislaw21.PassesParts'. -/
def passesPartsCard : Claim7 := { stood := { row := passesPartsRow, standIns := [], harness := (true, "051491a8fa4edf4c15b04ad67d6b6b052b6905ff3715cd384c7eab002fde19bd"), looks := true }, kinds := [], alts := [], laidByText := true, laidKinds := [.sentinel, .sentinel, .sentinel, .sentinel, .sentinel, .sentinel, .sentinel, .sentinel, .sentinel, .sentinel, .sentinel, .sentinel, .sentinel, .sentinel, .sentinel, .sentinel, .sentinel], laidTests := true, laidLooks := .later }
def PassesPartsCardSaid : Prop := Claim7.holds Tryd.pinned (.plain (OpenSpec.ofChange passesPartsSpec)) passesPartsCard

/-- THE SECOND FORM's CARD OF 'patoislaw23.GenGreat'. -/
def genGreatUptoCard : Claim7 := { stood := { row := genGreatUptoRow, standIns := [], harness := (true, "051491a8fa4edf4c15b04ad67d6b6b052b6905ff3715cd384c7eab002fde19bd"), looks := true }, kinds := [], alts := [], laidByText := true, laidKinds := [.sentinel, .sentinel, .sentinel, .sentinel], laidTests := true, laidLooks := .later }
def GenGreatUptoCardSaid : Prop := Claim7.holds Tryd.pinned (.plain (OpenSpec.upto genGreatSpec)) genGreatUptoCard

/-- THE SECOND FORM's CARD OF 'patoislaw17.ConstsAgain'. -/
def constsAgainUptoCard : Claim7 := { stood := { row := constsAgainUptoRow, standIns := [], harness := (true, "051491a8fa4edf4c15b04ad67d6b6b052b6905ff3715cd384c7eab002fde19bd"), looks := true }, kinds := [], alts := [], laidByText := true, laidKinds := [.sentinel, .sentinel, .sentinel], laidTests := true, laidLooks := .later }
def ConstsAgainUptoCardSaid : Prop := Claim7.holds Tryd.pinned (.plain (OpenSpec.upto constsAgainSpec)) constsAgainUptoCard

/-- THE SECOND FORM's CARD OF 'patoislaw17.ConstsTexts'. -/
def constsTextsUptoCard : Claim7 := { stood := { row := constsTextsUptoRow, standIns := [], harness := (true, "051491a8fa4edf4c15b04ad67d6b6b052b6905ff3715cd384c7eab002fde19bd"), looks := true }, kinds := [], alts := [], laidByText := true, laidKinds := [.sentinel, .sentinel, .sentinel], laidTests := true, laidLooks := .later }
def ConstsTextsUptoCardSaid : Prop := Claim7.holds Tryd.pinned (.plain (OpenSpec.upto constsTextsSpec)) constsTextsUptoCard

/-- THE SECOND FORM's CARD OF 'patoislaw23.GenMakes'. -/
def genMakesUptoCard : Claim7 := { stood := { row := genMakesUptoRow, standIns := [], harness := (true, "051491a8fa4edf4c15b04ad67d6b6b052b6905ff3715cd384c7eab002fde19bd"), looks := true }, kinds := [], alts := [], laidByText := true, laidKinds := [.sentinel, .sentinel, .sentinel, .sentinel, .sentinel, .sentinel, .sentinel, .sentinel, .sentinel, .sentinel, .sentinel, .sentinel, .sentinel, .sentinel, .sentinel, .sentinel, .sentinel], laidTests := true, laidLooks := .later }
def GenMakesUptoCardSaid : Prop := Claim7.holds Tryd.pinned (.plain (OpenSpec.upto genMakesSpec)) genMakesUptoCard

/-- THE SECOND FORM's CARD OF 'patoislaw24.ThreadJumps'. -/
def threadJumpsUptoCard : Claim7 := { stood := { row := threadJumpsUptoRow, standIns := [], harness := (true, "051491a8fa4edf4c15b04ad67d6b6b052b6905ff3715cd384c7eab002fde19bd"), looks := true }, kinds := [], alts := [], laidByText := true, laidKinds := [.sentinel, .sentinel], laidTests := true, laidLooks := .later }
def ThreadJumpsUptoCardSaid : Prop := Claim7.holds Tryd.pinned (.plain (OpenSpec.upto threadJumpsSpec)) threadJumpsUptoCard

/-- THE SECOND FORM's CARD OF 'patoislaw24.ThreadReach'. -/
def threadReachUptoCard : Claim7 := { stood := { row := threadReachUptoRow, standIns := [], harness := (true, "051491a8fa4edf4c15b04ad67d6b6b052b6905ff3715cd384c7eab002fde19bd"), looks := true }, kinds := [], alts := [], laidByText := true, laidKinds := [.sentinel, .sentinel], laidTests := true, laidLooks := .later }
def ThreadReachUptoCardSaid : Prop := Claim7.holds Tryd.pinned (.plain (OpenSpec.upto threadReachSpec)) threadReachUptoCard

/-- THE SECOND FORM's CARD OF 'patoislaw19.InlineOwn'. -/
def inlineOwnUptoCard : Claim7 := { stood := { row := inlineOwnUptoRow, standIns := [], harness := (true, "051491a8fa4edf4c15b04ad67d6b6b052b6905ff3715cd384c7eab002fde19bd"), looks := true }, kinds := [], alts := [], laidByText := true, laidKinds := [.sentinel, .sentinel, .sentinel], laidTests := true, laidLooks := .later }
def InlineOwnUptoCardSaid : Prop := Claim7.holds Tryd.pinned (.plain (OpenSpec.upto inlineOwnSpec)) inlineOwnUptoCard

/-- THE SECOND FORM's CARD OF 'patoislaw19.InlineKnown'. -/
def inlineKnownUptoCard : Claim7 := { stood := { row := inlineKnownUptoRow, standIns := [], harness := (true, "051491a8fa4edf4c15b04ad67d6b6b052b6905ff3715cd384c7eab002fde19bd"), looks := true }, kinds := [], alts := [], laidByText := true, laidKinds := [.sentinel, .sentinel, .sentinel], laidTests := true, laidLooks := .later }
def InlineKnownUptoCardSaid : Prop := Claim7.holds Tryd.pinned (.plain (OpenSpec.upto inlineKnownSpec)) inlineKnownUptoCard

/-- THE SECOND FORM's CARD OF 'patoislaw19.InlineStays'. -/
def inlineStaysUptoCard : Claim7 := { stood := { row := inlineStaysUptoRow, standIns := [], harness := (true, "051491a8fa4edf4c15b04ad67d6b6b052b6905ff3715cd384c7eab002fde19bd"), looks := true }, kinds := [], alts := [], laidByText := true, laidKinds := [.sentinel, .sentinel, .sentinel], laidTests := true, laidLooks := .later }
def InlineStaysUptoCardSaid : Prop := Claim7.holds Tryd.pinned (.plain (OpenSpec.upto inlineStaysSpec)) inlineStaysUptoCard

/-- THE SECOND FORM's CARD OF 'patoislaw21.PassesParts'. -/
def passesPartsUptoCard : Claim7 := { stood := { row := passesPartsUptoRow, standIns := [], harness := (true, "051491a8fa4edf4c15b04ad67d6b6b052b6905ff3715cd384c7eab002fde19bd"), looks := true }, kinds := [], alts := [], laidByText := true, laidKinds := [.sentinel, .sentinel, .sentinel, .sentinel, .sentinel, .sentinel, .sentinel, .sentinel, .sentinel, .sentinel, .sentinel, .sentinel, .sentinel, .sentinel, .sentinel, .sentinel, .sentinel], laidTests := true, laidLooks := .later }
def PassesPartsUptoCardSaid : Prop := Claim7.holds Tryd.pinned (.plain (OpenSpec.upto passesPartsSpec)) passesPartsUptoCard
end Rows
end Go.Proofs.YthmcfphafofheaaDoor
