/-
  No cell of these rows narrows 'for every input' (looked for: loops, veiled, ifaces, maps, wideKeys, modest, calm, conditions, laid).
  DERIVED. THE GIVEN ROWS OF THIS SEAT. 3 by the template 'for every input the law returns true; each argument reads behind the call as it read before'; 0 by the template 'total and deterministic' (their statements: YtfighiceodplnaaTotals.lean).
  GIVEN WITH THE SEED: the statements are not yours to turn. If you find one false, say at which input.
  Laid BY PROGRAM, IN A SANDBOX (cutbox-rows.mjs): the forced cells as the released guide's own fill.sh prints them over the translation 0ec5e36cd8448197… (all of the seat's roots in one cut). By AI agents, Wed Nov 11 2026. No macro, syntax, notation, axiom, sorry.
-/
import Derived.Test.YtfighiceodplnaaChecked
import GoSem.Claim
import GoSem.ClaimJoined
import GoSem.ClaimMapViews
import Derived.JoinedTies
import Derived.KernelRfl
namespace Go.Proofs.Ytfighiceodplnaa
/- THE CELL 'sum', in the pinned program and in every row, IS THE sha256 OF THE DUMP (.gsa) THAT YtfighiceodplnaaProg.lean LOADS. Nothing in Lean hashes anything: it is a label: what it is worth is what the hold of that sum in a sandbox is worth. -/
noncomputable def Try.pinned : Pinned := { name := "ytfighiceodplnaa", sum := "0ec5e36cd8448197be5870efb7a4fdacc8d7c51b8eb3ce82dc6fc059736cc945", checked := Try.checked }
namespace Rows
def none {H : Type} : Left H := { results := [], args := [] }

/-- 'mezzotintlaw30.AsciiOf': WHATEVER THE INPUT: true; the input reads as it did. -/
def asciiOfSpec : ChangeSpec := { name := "asciiOf", fn := fun _ => fun
  | [d] => { results := [.lit (.bool true)], args := [d] }
  | _ => none }
def asciiOfRow : OpenClaim := { program := "ytfighiceodplnaa", sum := "0ec5e36cd8448197be5870efb7a4fdacc8d7c51b8eb3ce82dc6fc059736cc945", func := "mezzotint/mezzotintlaw30.AsciiOf", spec := "asciiOf", apart := false }
def AsciiOfSaid : Prop := asciiOfRow.holds Try.pinned (OpenSpec.ofChange asciiOfSpec)

/-- ITS FALSE NEIGHBOUR: 'it returns false'. Refute it at one input. -/
def asciiOfWrong : ChangeSpec := { name := "asciiOf", fn := fun _ => fun
  | [d] => { results := [.lit (.bool false)], args := [d] }
  | _ => none }
def AsciiOfWrongFalsely : Prop := asciiOfRow.holds Try.pinned (OpenSpec.ofChange asciiOfWrong)

/-- 'mezzotintlaw30.AsciiNext': WHATEVER THE INPUT: true; the input reads as it did. -/
def asciiNextSpec : ChangeSpec := { name := "asciiNext", fn := fun _ => fun
  | [d] => { results := [.lit (.bool true)], args := [d] }
  | _ => none }
def asciiNextRow : OpenClaim := { program := "ytfighiceodplnaa", sum := "0ec5e36cd8448197be5870efb7a4fdacc8d7c51b8eb3ce82dc6fc059736cc945", func := "mezzotint/mezzotintlaw30.AsciiNext", spec := "asciiNext", apart := false }
def AsciiNextSaid : Prop := asciiNextRow.holds Try.pinned (OpenSpec.ofChange asciiNextSpec)

/-- ITS FALSE NEIGHBOUR: 'it returns false'. Refute it at one input. -/
def asciiNextWrong : ChangeSpec := { name := "asciiNext", fn := fun _ => fun
  | [d] => { results := [.lit (.bool false)], args := [d] }
  | _ => none }
def AsciiNextWrongFalsely : Prop := asciiNextRow.holds Try.pinned (OpenSpec.ofChange asciiNextWrong)

/-- 'mezzotintlaw30.AsciiTexts': WHATEVER THE INPUT: true; the input reads as it did. -/
def asciiTextsSpec : ChangeSpec := { name := "asciiTexts", fn := fun _ => fun
  | [d1, d2] => { results := [.lit (.bool true)], args := [d1, d2] }
  | _ => none }
def asciiTextsRow : OpenClaim := { program := "ytfighiceodplnaa", sum := "0ec5e36cd8448197be5870efb7a4fdacc8d7c51b8eb3ce82dc6fc059736cc945", func := "mezzotint/mezzotintlaw30.AsciiTexts", spec := "asciiTexts", apart := false }
def AsciiTextsSaid : Prop := asciiTextsRow.holds Try.pinned (OpenSpec.ofChange asciiTextsSpec)

/-- ITS FALSE NEIGHBOUR: 'it returns false'. Refute it at one input. -/
def asciiTextsWrong : ChangeSpec := { name := "asciiTexts", fn := fun _ => fun
  | [d1, d2] => { results := [.lit (.bool false)], args := [d1, d2] }
  | _ => none }
def AsciiTextsWrongFalsely : Prop := asciiTextsRow.holds Try.pinned (OpenSpec.ofChange asciiTextsWrong)

/- THE SECOND FORM. 'bulk': how many values and letters a reading holds, each counted each time it is reached (what is shared counts as often as it is met; a slice's spare places count too). A statement '..UptoSaid' is the law's where the arguments, and the package variables that the reading takes, are together of bulk at most 1048576: NARROWER than '..Said'. Prove '..Said' where nothing that the law and all that it calls make is longer than what came in: it says more and counts as full. Else prove '..UptoSaid'. A law counts once. -/
mutual
def uptoBulk {H : Type} : DataW H → Nat
  | .lit (.string bytes) => bytes.length + 1
  | .lit _ => 1
  | .nil => 1
  | .ptr d => uptoBulk d + 1
  | .slice elems spare => uptoBulkAll elems + uptoBulkAll spare + 1
  | .agg parts => uptoBulkAll parts + 1
  | .iface _ d => uptoBulk d + 1
  | .map entries => uptoBulkEntries entries + 1
  | .held _ => 1
def uptoBulkAll {H : Type} : List (DataW H) → Nat
  | [] => 0
  | d :: r => uptoBulk d + uptoBulkAll r
def uptoBulkEntries {H : Type} : List (Lit × DataW H) → Nat
  | [] => 0
  | x :: r => uptoBulkEntry x + uptoBulkEntries r
def uptoBulkEntry {H : Type} : Lit × DataW H → Nat
  | (.string bytes, d) => bytes.length + uptoBulk d + 1
  | (_, d) => uptoBulk d + 1
 end
def uptoSmall : (H : Type) → List (DataW H) → Bool := fun _ ds => decide (uptoBulkAll ds ≤ 1048576)
def OpenSpec.upto (s : _root_.Go.ChangeSpec) : _root_.Go.OpenSpec := { _root_.Go.OpenSpec.ofChange s with cond := some uptoSmall }

/-- 'mezzotintlaw30.AsciiOf', WHERE WHAT IT READS IS OF BULK AT MOST 1048576: true; the input reads as it did. -/
def asciiOfUptoRow : OpenClaim := { program := "ytfighiceodplnaa", sum := "0ec5e36cd8448197be5870efb7a4fdacc8d7c51b8eb3ce82dc6fc059736cc945", func := "mezzotint/mezzotintlaw30.AsciiOf", spec := "asciiOf", apart := false, narrowed := true }
def AsciiOfUptoSaid : Prop := asciiOfUptoRow.holds Try.pinned (OpenSpec.upto asciiOfSpec)

/-- 'mezzotintlaw30.AsciiNext', WHERE WHAT IT READS IS OF BULK AT MOST 1048576: true; the input reads as it did. -/
def asciiNextUptoRow : OpenClaim := { program := "ytfighiceodplnaa", sum := "0ec5e36cd8448197be5870efb7a4fdacc8d7c51b8eb3ce82dc6fc059736cc945", func := "mezzotint/mezzotintlaw30.AsciiNext", spec := "asciiNext", apart := false, narrowed := true }
def AsciiNextUptoSaid : Prop := asciiNextUptoRow.holds Try.pinned (OpenSpec.upto asciiNextSpec)

/-- 'mezzotintlaw30.AsciiTexts', WHERE WHAT IT READS IS OF BULK AT MOST 1048576: true; the input reads as it did. -/
def asciiTextsUptoRow : OpenClaim := { program := "ytfighiceodplnaa", sum := "0ec5e36cd8448197be5870efb7a4fdacc8d7c51b8eb3ce82dc6fc059736cc945", func := "mezzotint/mezzotintlaw30.AsciiTexts", spec := "asciiTexts", apart := false, narrowed := true }
def AsciiTextsUptoSaid : Prop := asciiTextsUptoRow.holds Try.pinned (OpenSpec.upto asciiTextsSpec)

end Rows
end Go.Proofs.Ytfighiceodplnaa
