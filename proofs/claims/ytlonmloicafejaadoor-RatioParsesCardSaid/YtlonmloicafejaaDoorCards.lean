/-
  DERIVED. GIVEN WITH THE SEED: THE CARDS: each row of YtlonmloicafejaaDoorRows.lean that lists a variable, with what it lists TIED to the program's text (the seventh form; the later family's looks); each row that meets fmt, with fmt's text TOLD by the authors' own Lean function (tested against real Go, not proved from fmt's source: count such statements apart). THE CARD IS WHAT COUNTS. Prove the row's statement (the work); the ties are given (YtlonmloicafejaaDoorTie.lean); close each card by the builder's one call (the guide's Derived/Test/ToyasCard.lean, 'card_holds'). Laid BY PROGRAM, IN A SANDBOX (cutbox-door.mjs). By AI agents, Wed Nov 11 2026. No macro, syntax, notation, axiom, sorry.
-/
import Derived.Test.YtlonmloicafejaaDoorRows
import GoSem.ClaimSeven
namespace Go.Proofs.YtlonmloicafejaaDoor
namespace Rows

/-- THE TIED CARD OF 'mezzotintlaw29.RatioParses'. -/
def ratioParsesCard : Claim7 := { stood := { row := ratioParsesRow, standIns := [], harness := (true, "fb139e756c078e4cd29008338c1ec4417d598b36bafa71bfb5ba218584dc4834"), looks := true }, kinds := [], alts := [], laidByText := true, laidKinds := [.data, .data, .data, .sentinel, .sentinel], laidTests := true, laidLooks := .later }
def RatioParsesCardSaid : Prop := Claim7.holds Tryd.pinned (.plain (OpenSpec.ofChange ratioParsesSpec)) ratioParsesCard

/-- THE TIED CARD OF 'mezzotintlaw29.RatioReduces'. -/
def ratioReducesCard : Claim7 := { stood := { row := ratioReducesRow, standIns := [], harness := (true, "fb139e756c078e4cd29008338c1ec4417d598b36bafa71bfb5ba218584dc4834"), looks := true }, kinds := [], alts := [], laidByText := true, laidKinds := [.data, .data, .data, .sentinel, .sentinel], laidTests := true, laidLooks := .later }
def RatioReducesCardSaid : Prop := Claim7.holds Tryd.pinned (.plain (OpenSpec.ofChange ratioReducesSpec)) ratioReducesCard

/-- THE TIED CARD OF 'mezzotintlaw29.RatioCompares'. -/
def ratioComparesCard : Claim7 := { stood := { row := ratioComparesRow, standIns := [], harness := (true, "fb139e756c078e4cd29008338c1ec4417d598b36bafa71bfb5ba218584dc4834"), looks := true }, kinds := [], alts := [], laidByText := true, laidKinds := [.data, .data, .data, .sentinel, .sentinel], laidTests := true, laidLooks := .later }
def RatioComparesCardSaid : Prop := Claim7.holds Tryd.pinned (.plain (OpenSpec.ofChange ratioComparesSpec)) ratioComparesCard

/-- THE TIED CARD OF 'mezzotintlaw29.RatioOrder'. -/
def ratioOrderCard : Claim7 := { stood := { row := ratioOrderRow, standIns := [], harness := (true, "fb139e756c078e4cd29008338c1ec4417d598b36bafa71bfb5ba218584dc4834"), looks := true }, kinds := [], alts := [], laidByText := true, laidKinds := [.data, .data, .data, .sentinel, .sentinel], laidTests := true, laidLooks := .later }
def RatioOrderCardSaid : Prop := Claim7.holds Tryd.pinned (.plain (OpenSpec.ofChange ratioOrderSpec)) ratioOrderCard

/-- THE TIED CARD OF 'mezzotintlaw29.RatioKeeps'. -/
def ratioKeepsCard : Claim7 := { stood := { row := ratioKeepsRow, standIns := [], harness := (true, "fb139e756c078e4cd29008338c1ec4417d598b36bafa71bfb5ba218584dc4834"), looks := true }, kinds := [], alts := [], laidByText := true, laidKinds := [.data, .data, .data, .sentinel, .sentinel], laidTests := true, laidLooks := .later }
def RatioKeepsCardSaid : Prop := Claim7.holds Tryd.pinned (.plain (OpenSpec.ofChange ratioKeepsSpec)) ratioKeepsCard

/-- THE SECOND FORM's CARD OF 'mezzotintlaw29.RatioParses'. -/
def ratioParsesUptoCard : Claim7 := { stood := { row := ratioParsesUptoRow, standIns := [], harness := (true, "fb139e756c078e4cd29008338c1ec4417d598b36bafa71bfb5ba218584dc4834"), looks := true }, kinds := [], alts := [], laidByText := true, laidKinds := [.data, .data, .data, .sentinel, .sentinel], laidTests := true, laidLooks := .later }
def RatioParsesUptoCardSaid : Prop := Claim7.holds Tryd.pinned (.plain (OpenSpec.upto ratioParsesSpec)) ratioParsesUptoCard

/-- THE SECOND FORM's CARD OF 'mezzotintlaw29.RatioReduces'. -/
def ratioReducesUptoCard : Claim7 := { stood := { row := ratioReducesUptoRow, standIns := [], harness := (true, "fb139e756c078e4cd29008338c1ec4417d598b36bafa71bfb5ba218584dc4834"), looks := true }, kinds := [], alts := [], laidByText := true, laidKinds := [.data, .data, .data, .sentinel, .sentinel], laidTests := true, laidLooks := .later }
def RatioReducesUptoCardSaid : Prop := Claim7.holds Tryd.pinned (.plain (OpenSpec.upto ratioReducesSpec)) ratioReducesUptoCard

/-- THE SECOND FORM's CARD OF 'mezzotintlaw29.RatioCompares'. -/
def ratioComparesUptoCard : Claim7 := { stood := { row := ratioComparesUptoRow, standIns := [], harness := (true, "fb139e756c078e4cd29008338c1ec4417d598b36bafa71bfb5ba218584dc4834"), looks := true }, kinds := [], alts := [], laidByText := true, laidKinds := [.data, .data, .data, .sentinel, .sentinel], laidTests := true, laidLooks := .later }
def RatioComparesUptoCardSaid : Prop := Claim7.holds Tryd.pinned (.plain (OpenSpec.upto ratioComparesSpec)) ratioComparesUptoCard

/-- THE SECOND FORM's CARD OF 'mezzotintlaw29.RatioOrder'. -/
def ratioOrderUptoCard : Claim7 := { stood := { row := ratioOrderUptoRow, standIns := [], harness := (true, "fb139e756c078e4cd29008338c1ec4417d598b36bafa71bfb5ba218584dc4834"), looks := true }, kinds := [], alts := [], laidByText := true, laidKinds := [.data, .data, .data, .sentinel, .sentinel], laidTests := true, laidLooks := .later }
def RatioOrderUptoCardSaid : Prop := Claim7.holds Tryd.pinned (.plain (OpenSpec.upto ratioOrderSpec)) ratioOrderUptoCard

/-- THE SECOND FORM's CARD OF 'mezzotintlaw29.RatioKeeps'. -/
def ratioKeepsUptoCard : Claim7 := { stood := { row := ratioKeepsUptoRow, standIns := [], harness := (true, "fb139e756c078e4cd29008338c1ec4417d598b36bafa71bfb5ba218584dc4834"), looks := true }, kinds := [], alts := [], laidByText := true, laidKinds := [.data, .data, .data, .sentinel, .sentinel], laidTests := true, laidLooks := .later }
def RatioKeepsUptoCardSaid : Prop := Claim7.holds Tryd.pinned (.plain (OpenSpec.upto ratioKeepsSpec)) ratioKeepsUptoCard
end Rows
end Go.Proofs.YtlonmloicafejaaDoor
