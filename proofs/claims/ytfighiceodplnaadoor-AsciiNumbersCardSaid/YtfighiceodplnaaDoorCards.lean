/-
  DERIVED. GIVEN WITH THE SEED: THE CARDS: each row of YtfighiceodplnaaDoorRows.lean that lists a variable, with what it lists TIED to the program's text (the seventh form; the later family's looks); each row that meets fmt, with fmt's text TOLD by the authors' own Lean function (tested against real Go, not proved from fmt's source: count such statements apart). THE CARD IS WHAT COUNTS. Prove the row's statement (the work); the ties are given (YtfighiceodplnaaDoorTie.lean); close each card by the builder's one call (the guide's Derived/Test/ToyasCard.lean, 'card_holds'). Laid BY PROGRAM, IN A SANDBOX (cutbox-door.mjs). By AI agents, Wed Nov 11 2026. No macro, syntax, notation, axiom, sorry.
-/
import Derived.Test.YtfighiceodplnaaDoorRows
import GoSem.ClaimSeven
namespace Go.Proofs.YtfighiceodplnaaDoor
namespace Rows

/-- THE TIED CARD OF 'mezzotintlaw30.AsciiTimes'. -/
def asciiTimesCard : Claim7 := { stood := { row := asciiTimesRow, standIns := [], harness := (true, "7da85ac3e05fb905a66646303da46b3d83b90467e59069b23047638854be37f5"), looks := false }, kinds := [], alts := [], laidByText := true, laidKinds := [.data, .data, .data], laidTests := true, laidLooks := .later }
def AsciiTimesCardSaid : Prop := Claim7.holds Tryd.pinned (.plain (OpenSpec.ofChange asciiTimesSpec)) asciiTimesCard

/-- THE TIED CARD OF 'mezzotintlaw30.AsciiNumbers'. -/
def asciiNumbersCard : Claim7 := { stood := { row := asciiNumbersRow, standIns := [], harness := (true, "7da85ac3e05fb905a66646303da46b3d83b90467e59069b23047638854be37f5"), looks := false }, kinds := [], alts := [], laidByText := true, laidKinds := [.data, .data, .data], laidTests := true, laidLooks := .later }
def AsciiNumbersCardSaid : Prop := Claim7.holds Tryd.pinned (.plain (OpenSpec.ofChange asciiNumbersSpec)) asciiNumbersCard

/-- THE SECOND FORM's CARD OF 'mezzotintlaw30.AsciiTimes'. -/
def asciiTimesUptoCard : Claim7 := { stood := { row := asciiTimesUptoRow, standIns := [], harness := (true, "7da85ac3e05fb905a66646303da46b3d83b90467e59069b23047638854be37f5"), looks := false }, kinds := [], alts := [], laidByText := true, laidKinds := [.data, .data, .data], laidTests := true, laidLooks := .later }
def AsciiTimesUptoCardSaid : Prop := Claim7.holds Tryd.pinned (.plain (OpenSpec.upto asciiTimesSpec)) asciiTimesUptoCard

/-- THE SECOND FORM's CARD OF 'mezzotintlaw30.AsciiNumbers'. -/
def asciiNumbersUptoCard : Claim7 := { stood := { row := asciiNumbersUptoRow, standIns := [], harness := (true, "7da85ac3e05fb905a66646303da46b3d83b90467e59069b23047638854be37f5"), looks := false }, kinds := [], alts := [], laidByText := true, laidKinds := [.data, .data, .data], laidTests := true, laidLooks := .later }
def AsciiNumbersUptoCardSaid : Prop := Claim7.holds Tryd.pinned (.plain (OpenSpec.upto asciiNumbersSpec)) asciiNumbersUptoCard
end Rows
end Go.Proofs.YtfighiceodplnaaDoor
