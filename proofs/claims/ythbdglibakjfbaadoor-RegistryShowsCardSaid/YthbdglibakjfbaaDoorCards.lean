/-
  DERIVED. GIVEN WITH THE SEED: THE CARDS: each row of YthbdglibakjfbaaDoorRows.lean that lists a variable, with what it lists TIED to the program's text (the seventh form; the later family's looks); each row that meets fmt, with fmt's text TOLD by the authors' own Lean function (tested against real Go, not proved from fmt's source: count such statements apart). THE CARD IS WHAT COUNTS. Prove the row's statement (the work); the ties are given (YthbdglibakjfbaaDoorTie.lean); close each card by the builder's one call (the guide's Derived/Test/ToyasCard.lean, 'card_holds'). Laid BY PROGRAM, IN A SANDBOX (cutbox-door.mjs). By AI agents, Wed Nov 11 2026. No macro, syntax, notation, axiom, sorry.
-/
import Derived.Test.YthbdglibakjfbaaDoorRows
import GoSem.ClaimSeven
namespace Go.Proofs.YthbdglibakjfbaaDoor
namespace Rows

/-- THE TIED CARD OF 'mezzotintlaw31.RegistryRules'. -/
def registryRulesCard : Claim7 := { stood := { row := registryRulesRow, standIns := [], harness := (true, "58dbe7420afbae09ac8aef0474196280468081f673f95ef8789277a05cd12044"), looks := true }, kinds := [], alts := [], laidByText := true, laidKinds := [.data, .data, .data, .data, .sentinel, .sentinel, .listed, .data, .pinned, .pinned, .pinned, .pinned, .pinned, .pinned], laidTests := true, laidLooks := .later }
def RegistryRulesCardSaid : Prop := Claim7.holds Tryd.pinned (.plain (OpenSpec.ofChange registryRulesSpec)) registryRulesCard

/-- THE TIED CARD OF 'mezzotintlaw31.RegistryShows'. -/
def registryShowsCard : Claim7 := { stood := { row := registryShowsRow, standIns := [], harness := (true, "58dbe7420afbae09ac8aef0474196280468081f673f95ef8789277a05cd12044"), looks := true }, kinds := [], alts := [], laidByText := true, laidKinds := [.data, .data, .data, .data, .sentinel, .sentinel, .listed, .data, .pinned, .pinned, .pinned, .pinned, .pinned, .pinned], laidTests := true, laidLooks := .later }
def RegistryShowsCardSaid : Prop := Claim7.holds Tryd.pinned (.plain (OpenSpec.ofChange registryShowsSpec)) registryShowsCard

/-- THE SECOND FORM's CARD OF 'mezzotintlaw31.RegistryRules'. -/
def registryRulesUptoCard : Claim7 := { stood := { row := registryRulesUptoRow, standIns := [], harness := (true, "58dbe7420afbae09ac8aef0474196280468081f673f95ef8789277a05cd12044"), looks := true }, kinds := [], alts := [], laidByText := true, laidKinds := [.data, .data, .data, .data, .sentinel, .sentinel, .listed, .data, .pinned, .pinned, .pinned, .pinned, .pinned, .pinned], laidTests := true, laidLooks := .later }
def RegistryRulesUptoCardSaid : Prop := Claim7.holds Tryd.pinned (.plain (OpenSpec.upto registryRulesSpec)) registryRulesUptoCard

/-- THE SECOND FORM's CARD OF 'mezzotintlaw31.RegistryShows'. -/
def registryShowsUptoCard : Claim7 := { stood := { row := registryShowsUptoRow, standIns := [], harness := (true, "58dbe7420afbae09ac8aef0474196280468081f673f95ef8789277a05cd12044"), looks := true }, kinds := [], alts := [], laidByText := true, laidKinds := [.data, .data, .data, .data, .sentinel, .sentinel, .listed, .data, .pinned, .pinned, .pinned, .pinned, .pinned, .pinned], laidTests := true, laidLooks := .later }
def RegistryShowsUptoCardSaid : Prop := Claim7.holds Tryd.pinned (.plain (OpenSpec.upto registryShowsSpec)) registryShowsUptoCard
end Rows
end Go.Proofs.YthbdglibakjfbaaDoor
