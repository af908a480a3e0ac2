/-
  No cell of these rows narrows 'for every input' (looked for: loops, veiled, ifaces, maps, wideKeys, modest, calm, conditions, laid).
  DERIVED. THE GIVEN ROWS OF THIS SEAT. 5 by the template 'for every input the law returns true; each argument reads behind the call as it read before'; 0 by the template 'total and deterministic' (their statements: YtochcepfljafoaaTotals.lean).
  GIVEN WITH THE SEED: the statements are not yours to turn. If you find one false, say at which input.
  Laid BY PROGRAM, IN A SANDBOX (cutbox-rows.mjs): the forced cells as the released guide's own fill.sh prints them over the translation 3614ceee7cc58797… (all of the seat's roots in one cut). By AI agents, Wed Nov 11 2026. No macro, syntax, notation, axiom, sorry.
-/
import Derived.Test.YtochcepfljafoaaChecked
import GoSem.Claim
import GoSem.ClaimJoined
import GoSem.ClaimMapViews
import Derived.JoinedTies
import Derived.KernelRfl
namespace Go.Proofs.Ytochcepfljafoaa
/- THE CELL 'sum', in the pinned program and in every row, IS THE sha256 OF THE DUMP (.gsa) THAT YtochcepfljafoaaProg.lean LOADS. Nothing in Lean hashes anything: it is a label: what it is worth is what the hold of that sum in a sandbox is worth. -/
noncomputable def Try.pinned : Pinned := { name := "ytochcepfljafoaa", sum := "3614ceee7cc58797d5b87c40e6f33d025df63bc18b36773c7fff37b8c23f17af", checked := Try.checked }
namespace Rows
def none {H : Type} : Left H := { results := [], args := [] }

/-- 'mezzotintlaw01.OctetsWindows': WHATEVER THE INPUT: true; the input reads as it did. -/
def octetsWindowsSpec : ChangeSpec := { name := "octetsWindows", fn := fun _ => fun
  | [d1, d2] => { results := [.lit (.bool true)], args := [d1, d2] }
  | _ => none }
def octetsWindowsRow : OpenClaim := { program := "ytochcepfljafoaa", sum := "3614ceee7cc58797d5b87c40e6f33d025df63bc18b36773c7fff37b8c23f17af", func := "mezzotint/mezzotintlaw01.OctetsWindows", spec := "octetsWindows", inPlace := ["math/bits.Add64"], apart := false }
def OctetsWindowsSaid : Prop := octetsWindowsRow.holds Try.pinned (OpenSpec.ofChange octetsWindowsSpec)

/-- ITS FALSE NEIGHBOUR: 'it returns false'. Refute it at one input. -/
def octetsWindowsWrong : ChangeSpec := { name := "octetsWindows", fn := fun _ => fun
  | [d1, d2] => { results := [.lit (.bool false)], args := [d1, d2] }
  | _ => none }
def OctetsWindowsWrongFalsely : Prop := octetsWindowsRow.holds Try.pinned (OpenSpec.ofChange octetsWindowsWrong)

/-- 'mezzotintlaw01.OctetsPuts': WHATEVER THE INPUT: true; the input reads as it did. -/
def octetsPutsSpec : ChangeSpec := { name := "octetsPuts", fn := fun _ => fun
  | [d1, d2] => { results := [.lit (.bool true)], args := [d1, d2] }
  | _ => none }
def octetsPutsRow : OpenClaim := { program := "ytochcepfljafoaa", sum := "3614ceee7cc58797d5b87c40e6f33d025df63bc18b36773c7fff37b8c23f17af", func := "mezzotint/mezzotintlaw01.OctetsPuts", spec := "octetsPuts", inPlace := ["math/bits.Add64"], apart := false }
def OctetsPutsSaid : Prop := octetsPutsRow.holds Try.pinned (OpenSpec.ofChange octetsPutsSpec)

/-- ITS FALSE NEIGHBOUR: 'it returns false'. Refute it at one input. -/
def octetsPutsWrong : ChangeSpec := { name := "octetsPuts", fn := fun _ => fun
  | [d1, d2] => { results := [.lit (.bool false)], args := [d1, d2] }
  | _ => none }
def OctetsPutsWrongFalsely : Prop := octetsPutsRow.holds Try.pinned (OpenSpec.ofChange octetsPutsWrong)

/-- 'mezzotintlaw01.OctetsReckons': WHATEVER THE INPUT: true; the input reads as it did. -/
def octetsReckonsSpec : ChangeSpec := { name := "octetsReckons", fn := fun _ => fun
  | [d1, d2] => { results := [.lit (.bool true)], args := [d1, d2] }
  | _ => none }
def octetsReckonsRow : OpenClaim := { program := "ytochcepfljafoaa", sum := "3614ceee7cc58797d5b87c40e6f33d025df63bc18b36773c7fff37b8c23f17af", func := "mezzotint/mezzotintlaw01.OctetsReckons", spec := "octetsReckons", inPlace := ["math/bits.Add64"], apart := false }
def OctetsReckonsSaid : Prop := octetsReckonsRow.holds Try.pinned (OpenSpec.ofChange octetsReckonsSpec)

/-- ITS FALSE NEIGHBOUR: 'it returns false'. Refute it at one input. -/
def octetsReckonsWrong : ChangeSpec := { name := "octetsReckons", fn := fun _ => fun
  | [d1, d2] => { results := [.lit (.bool false)], args := [d1, d2] }
  | _ => none }
def OctetsReckonsWrongFalsely : Prop := octetsReckonsRow.holds Try.pinned (OpenSpec.ofChange octetsReckonsWrong)

/-- 'mezzotintlaw01.OctetsLaws': WHATEVER THE INPUT: true; the input reads as it did. -/
def octetsLawsSpec : ChangeSpec := { name := "octetsLaws", fn := fun _ => fun
  | [d1, d2, d3] => { results := [.lit (.bool true)], args := [d1, d2, d3] }
  | _ => none }
def octetsLawsRow : OpenClaim := { program := "ytochcepfljafoaa", sum := "3614ceee7cc58797d5b87c40e6f33d025df63bc18b36773c7fff37b8c23f17af", func := "mezzotint/mezzotintlaw01.OctetsLaws", spec := "octetsLaws", inPlace := ["math/bits.Add64"], apart := false }
def OctetsLawsSaid : Prop := octetsLawsRow.holds Try.pinned (OpenSpec.ofChange octetsLawsSpec)

/-- ITS FALSE NEIGHBOUR: 'it returns false'. Refute it at one input. -/
def octetsLawsWrong : ChangeSpec := { name := "octetsLaws", fn := fun _ => fun
  | [d1, d2, d3] => { results := [.lit (.bool false)], args := [d1, d2, d3] }
  | _ => none }
def OctetsLawsWrongFalsely : Prop := octetsLawsRow.holds Try.pinned (OpenSpec.ofChange octetsLawsWrong)

/-- 'mezzotintlaw01.OctetsSwaps': WHATEVER THE INPUT: true; the input reads as it did. -/
def octetsSwapsSpec : ChangeSpec := { name := "octetsSwaps", fn := fun _ => fun
  | [d1, d2, d3] => { results := [.lit (.bool true)], args := [d1, d2, d3] }
  | _ => none }
def octetsSwapsRow : OpenClaim := { program := "ytochcepfljafoaa", sum := "3614ceee7cc58797d5b87c40e6f33d025df63bc18b36773c7fff37b8c23f17af", func := "mezzotint/mezzotintlaw01.OctetsSwaps", spec := "octetsSwaps", inPlace := ["math/bits.Add64"], apart := false }
def OctetsSwapsSaid : Prop := octetsSwapsRow.holds Try.pinned (OpenSpec.ofChange octetsSwapsSpec)

/-- ITS FALSE NEIGHBOUR: 'it returns false'. Refute it at one input. -/
def octetsSwapsWrong : ChangeSpec := { name := "octetsSwaps", fn := fun _ => fun
  | [d1, d2, d3] => { results := [.lit (.bool false)], args := [d1, d2, d3] }
  | _ => none }
def OctetsSwapsWrongFalsely : Prop := octetsSwapsRow.holds Try.pinned (OpenSpec.ofChange octetsSwapsWrong)

/- THE SECOND FORM. 'bulk': how many values and letters a reading holds, each counted each time it is reached (what is shared counts as often as it is met; a slice's spare places count too). A statement '..UptoSaid' is the law's where the arguments, and the package variables that the reading takes, are together of bulk at most 1048576: NARROWER than '..Said'. Prove '..Said' where nothing that the law and all that it calls make is longer than what came in: it says more and counts as full. Else prove '..UptoSaid'. A law counts once. -/
mutual
def uptoBulk {H : Type} : DataW H → Nat
  | .lit (.string bytes) => bytes.length + 1
  | .lit _ => 1
  | .nil => 1
  | .ptr d => uptoBulk d + 1
  | .slice elems spare => uptoBulkAll elems + uptoBulkAll spare + 1
  | .agg parts => uptoBulkAll parts + 1
  | .iface _ d => uptoBulk d + 1
  | .map entries => uptoBulkEntries entries + 1
  | .held _ => 1
def uptoBulkAll {H : Type} : List (DataW H) → Nat
  | [] => 0
  | d :: r => uptoBulk d + uptoBulkAll r
def uptoBulkEntries {H : Type} : List (Lit × DataW H) → Nat
  | [] => 0
  | x :: r => uptoBulkEntry x + uptoBulkEntries r
def uptoBulkEntry {H : Type} : Lit × DataW H → Nat
  | (.string bytes, d) => bytes.length + uptoBulk d + 1
  | (_, d) => uptoBulk d + 1
 end
def uptoSmall : (H : Type) → List (DataW H) → Bool := fun _ ds => decide (uptoBulkAll ds ≤ 1048576)
def OpenSpec.upto (s : _root_.Go.ChangeSpec) : _root_.Go.OpenSpec := { _root_.Go.OpenSpec.ofChange s with cond := some uptoSmall }

/-- 'mezzotintlaw01.OctetsWindows', WHERE WHAT IT READS IS OF BULK AT MOST 1048576: true; the input reads as it did. -/
def octetsWindowsUptoRow : OpenClaim := { program := "ytochcepfljafoaa", sum := "3614ceee7cc58797d5b87c40e6f33d025df63bc18b36773c7fff37b8c23f17af", func := "mezzotint/mezzotintlaw01.OctetsWindows", spec := "octetsWindows", inPlace := ["math/bits.Add64"], apart := false, narrowed := true }
def OctetsWindowsUptoSaid : Prop := octetsWindowsUptoRow.holds Try.pinned (OpenSpec.upto octetsWindowsSpec)

/-- 'mezzotintlaw01.OctetsPuts', WHERE WHAT IT READS IS OF BULK AT MOST 1048576: true; the input reads as it did. -/
def octetsPutsUptoRow : OpenClaim := { program := "ytochcepfljafoaa", sum := "3614ceee7cc58797d5b87c40e6f33d025df63bc18b36773c7fff37b8c23f17af", func := "mezzotint/mezzotintlaw01.OctetsPuts", spec := "octetsPuts", inPlace := ["math/bits.Add64"], apart := false, narrowed := true }
def OctetsPutsUptoSaid : Prop := octetsPutsUptoRow.holds Try.pinned (OpenSpec.upto octetsPutsSpec)

/-- 'mezzotintlaw01.OctetsReckons', WHERE WHAT IT READS IS OF BULK AT MOST 1048576: true; the input reads as it did. -/
def octetsReckonsUptoRow : OpenClaim := { program := "ytochcepfljafoaa", sum := "3614ceee7cc58797d5b87c40e6f33d025df63bc18b36773c7fff37b8c23f17af", func := "mezzotint/mezzotintlaw01.OctetsReckons", spec := "octetsReckons", inPlace := ["math/bits.Add64"], apart := false, narrowed := true }
def OctetsReckonsUptoSaid : Prop := octetsReckonsUptoRow.holds Try.pinned (OpenSpec.upto octetsReckonsSpec)

/-- 'mezzotintlaw01.OctetsLaws', WHERE WHAT IT READS IS OF BULK AT MOST 1048576: true; the input reads as it did. -/
def octetsLawsUptoRow : OpenClaim := { program := "ytochcepfljafoaa", sum := "3614ceee7cc58797d5b87c40e6f33d025df63bc18b36773c7fff37b8c23f17af", func := "mezzotint/mezzotintlaw01.OctetsLaws", spec := "octetsLaws", inPlace := ["math/bits.Add64"], apart := false, narrowed := true }
def OctetsLawsUptoSaid : Prop := octetsLawsUptoRow.holds Try.pinned (OpenSpec.upto octetsLawsSpec)

/-- 'mezzotintlaw01.OctetsSwaps', WHERE WHAT IT READS IS OF BULK AT MOST 1048576: true; the input reads as it did. -/
def octetsSwapsUptoRow : OpenClaim := { program := "ytochcepfljafoaa", sum := "3614ceee7cc58797d5b87c40e6f33d025df63bc18b36773c7fff37b8c23f17af", func := "mezzotint/mezzotintlaw01.OctetsSwaps", spec := "octetsSwaps", inPlace := ["math/bits.Add64"], apart := false, narrowed := true }
def OctetsSwapsUptoSaid : Prop := octetsSwapsUptoRow.holds Try.pinned (OpenSpec.upto octetsSwapsSpec)

end Rows
end Go.Proofs.Ytochcepfljafoaa
