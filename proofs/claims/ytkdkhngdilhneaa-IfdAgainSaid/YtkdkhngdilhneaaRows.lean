/-
  No cell of these rows narrows 'for every input' (looked for: loops, veiled, ifaces, maps, wideKeys, modest, calm, conditions, laid).
  DERIVED. THE GIVEN ROWS OF THIS SEAT. 4 by the template 'for every input the law returns true; each argument reads behind the call as it read before'; 0 by the template 'total and deterministic' (their statements: YtkdkhngdilhneaaTotals.lean).
  GIVEN WITH THE SEED: the statements are not yours to turn. If you find one false, say at which input.
  Laid BY PROGRAM, IN A SANDBOX (cutbox-rows.mjs): the forced cells as the released guide's own fill.sh prints them over the translation bc2ce6a22da9b208… (all of the seat's roots in one cut). By AI agents, Wed Nov 11 2026. No macro, syntax, notation, axiom, sorry.
-/
import Derived.Test.YtkdkhngdilhneaaChecked
import GoSem.Claim
import GoSem.ClaimJoined
import GoSem.ClaimMapViews
import Derived.JoinedTies
import Derived.KernelRfl
namespace Go.Proofs.Ytkdkhngdilhneaa
/- THE CELL 'sum', in the pinned program and in every row, IS THE sha256 OF THE DUMP (.gsa) THAT YtkdkhngdilhneaaProg.lean LOADS. Nothing in Lean hashes anything: it is a label: what it is worth is what the hold of that sum in a sandbox is worth. -/
noncomputable def Try.pinned : Pinned := { name := "ytkdkhngdilhneaa", sum := "bc2ce6a22da9b208c19a32cb9924a23a0b79af073e58b80391cbdca76431a11f", checked := Try.checked }
namespace Rows
def none {H : Type} : Left H := { results := [], args := [] }

/-- 'mezzotintlaw22.IfdHeads': WHATEVER THE INPUT: true; the input reads as it did. -/
def ifdHeadsSpec : ChangeSpec := { name := "ifdHeads", fn := fun _ => fun
  | [d1, d2] => { results := [.lit (.bool true)], args := [d1, d2] }
  | _ => none }
def ifdHeadsRow : OpenClaim := { program := "ytkdkhngdilhneaa", sum := "bc2ce6a22da9b208c19a32cb9924a23a0b79af073e58b80391cbdca76431a11f", func := "mezzotint/mezzotintlaw22.IfdHeads", spec := "ifdHeads", inPlace := ["math/bits.Add64"], apart := false }
def IfdHeadsSaid : Prop := ifdHeadsRow.holds Try.pinned (OpenSpec.ofChange ifdHeadsSpec)

/-- ITS FALSE NEIGHBOUR: 'it returns false'. Refute it at one input. -/
def ifdHeadsWrong : ChangeSpec := { name := "ifdHeads", fn := fun _ => fun
  | [d1, d2] => { results := [.lit (.bool false)], args := [d1, d2] }
  | _ => none }
def IfdHeadsWrongFalsely : Prop := ifdHeadsRow.holds Try.pinned (OpenSpec.ofChange ifdHeadsWrong)

/-- 'mezzotintlaw22.IfdWrites': WHATEVER THE INPUT: true; the input reads as it did. -/
def ifdWritesSpec : ChangeSpec := { name := "ifdWrites", fn := fun _ => fun
  | [d1, d2, d3] => { results := [.lit (.bool true)], args := [d1, d2, d3] }
  | _ => none }
def ifdWritesRow : OpenClaim := { program := "ytkdkhngdilhneaa", sum := "bc2ce6a22da9b208c19a32cb9924a23a0b79af073e58b80391cbdca76431a11f", func := "mezzotint/mezzotintlaw22.IfdWrites", spec := "ifdWrites", inPlace := ["math/bits.Add64"], unfollowed := true, recurses := true, apart := false }
def IfdWritesSaid : Prop := ifdWritesRow.holds Try.pinned (OpenSpec.ofChange ifdWritesSpec)

/-- ITS FALSE NEIGHBOUR: 'it returns false'. Refute it at one input. -/
def ifdWritesWrong : ChangeSpec := { name := "ifdWrites", fn := fun _ => fun
  | [d1, d2, d3] => { results := [.lit (.bool false)], args := [d1, d2, d3] }
  | _ => none }
def IfdWritesWrongFalsely : Prop := ifdWritesRow.holds Try.pinned (OpenSpec.ofChange ifdWritesWrong)

/-- 'mezzotintlaw22.IfdReads': WHATEVER THE INPUT: true; the input reads as it did. -/
def ifdReadsSpec : ChangeSpec := { name := "ifdReads", fn := fun _ => fun
  | [d1, d2, d3] => { results := [.lit (.bool true)], args := [d1, d2, d3] }
  | _ => none }
def ifdReadsRow : OpenClaim := { program := "ytkdkhngdilhneaa", sum := "bc2ce6a22da9b208c19a32cb9924a23a0b79af073e58b80391cbdca76431a11f", func := "mezzotint/mezzotintlaw22.IfdReads", spec := "ifdReads", inPlace := ["math/bits.Add64"], unfollowed := true, recurses := true, apart := false }
def IfdReadsSaid : Prop := ifdReadsRow.holds Try.pinned (OpenSpec.ofChange ifdReadsSpec)

/-- ITS FALSE NEIGHBOUR: 'it returns false'. Refute it at one input. -/
def ifdReadsWrong : ChangeSpec := { name := "ifdReads", fn := fun _ => fun
  | [d1, d2, d3] => { results := [.lit (.bool false)], args := [d1, d2, d3] }
  | _ => none }
def IfdReadsWrongFalsely : Prop := ifdReadsRow.holds Try.pinned (OpenSpec.ofChange ifdReadsWrong)

/-- 'mezzotintlaw22.IfdAgain': WHATEVER THE INPUT: true; the input reads as it did. -/
def ifdAgainSpec : ChangeSpec := { name := "ifdAgain", fn := fun _ => fun
  | [d1, d2, d3] => { results := [.lit (.bool true)], args := [d1, d2, d3] }
  | _ => none }
def ifdAgainRow : OpenClaim := { program := "ytkdkhngdilhneaa", sum := "bc2ce6a22da9b208c19a32cb9924a23a0b79af073e58b80391cbdca76431a11f", func := "mezzotint/mezzotintlaw22.IfdAgain", spec := "ifdAgain", inPlace := ["math/bits.Add64"], unfollowed := true, recurses := true, apart := false }
def IfdAgainSaid : Prop := ifdAgainRow.holds Try.pinned (OpenSpec.ofChange ifdAgainSpec)

/-- ITS FALSE NEIGHBOUR: 'it returns false'. Refute it at one input. -/
def ifdAgainWrong : ChangeSpec := { name := "ifdAgain", fn := fun _ => fun
  | [d1, d2, d3] => { results := [.lit (.bool false)], args := [d1, d2, d3] }
  | _ => none }
def IfdAgainWrongFalsely : Prop := ifdAgainRow.holds Try.pinned (OpenSpec.ofChange ifdAgainWrong)

/- THE SECOND FORM. 'bulk': how many values and letters a reading holds, each counted each time it is reached (what is shared counts as often as it is met; a slice's spare places count too). A statement '..UptoSaid' is the law's where the arguments, and the package variables that the reading takes, are together of bulk at most 1048576: NARROWER than '..Said'. Prove '..Said' where nothing that the law and all that it calls make is longer than what came in: it says more and counts as full. Else prove '..UptoSaid'. A law counts once. -/
mutual
def uptoBulk {H : Type} : DataW H → Nat
  | .lit (.string bytes) => bytes.length + 1
  | .lit _ => 1
  | .nil => 1
  | .ptr d => uptoBulk d + 1
  | .slice elems spare => uptoBulkAll elems + uptoBulkAll spare + 1
  | .agg parts => uptoBulkAll parts + 1
  | .iface _ d => uptoBulk d + 1
  | .map entries => uptoBulkEntries entries + 1
  | .held _ => 1
def uptoBulkAll {H : Type} : List (DataW H) → Nat
  | [] => 0
  | d :: r => uptoBulk d + uptoBulkAll r
def uptoBulkEntries {H : Type} : List (Lit × DataW H) → Nat
  | [] => 0
  | x :: r => uptoBulkEntry x + uptoBulkEntries r
def uptoBulkEntry {H : Type} : Lit × DataW H → Nat
  | (.string bytes, d) => bytes.length + uptoBulk d + 1
  | (_, d) => uptoBulk d + 1
 end
def uptoSmall : (H : Type) → List (DataW H) → Bool := fun _ ds => decide (uptoBulkAll ds ≤ 1048576)
def OpenSpec.upto (s : _root_.Go.ChangeSpec) : _root_.Go.OpenSpec := { _root_.Go.OpenSpec.ofChange s with cond := some uptoSmall }

/-- 'mezzotintlaw22.IfdHeads', WHERE WHAT IT READS IS OF BULK AT MOST 1048576: true; the input reads as it did. -/
def ifdHeadsUptoRow : OpenClaim := { program := "ytkdkhngdilhneaa", sum := "bc2ce6a22da9b208c19a32cb9924a23a0b79af073e58b80391cbdca76431a11f", func := "mezzotint/mezzotintlaw22.IfdHeads", spec := "ifdHeads", inPlace := ["math/bits.Add64"], apart := false, narrowed := true }
def IfdHeadsUptoSaid : Prop := ifdHeadsUptoRow.holds Try.pinned (OpenSpec.upto ifdHeadsSpec)

/-- 'mezzotintlaw22.IfdWrites', WHERE WHAT IT READS IS OF BULK AT MOST 1048576: true; the input reads as it did. -/
def ifdWritesUptoRow : OpenClaim := { program := "ytkdkhngdilhneaa", sum := "bc2ce6a22da9b208c19a32cb9924a23a0b79af073e58b80391cbdca76431a11f", func := "mezzotint/mezzotintlaw22.IfdWrites", spec := "ifdWrites", inPlace := ["math/bits.Add64"], unfollowed := true, recurses := true, apart := false, narrowed := true }
def IfdWritesUptoSaid : Prop := ifdWritesUptoRow.holds Try.pinned (OpenSpec.upto ifdWritesSpec)

/-- 'mezzotintlaw22.IfdReads', WHERE WHAT IT READS IS OF BULK AT MOST 1048576: true; the input reads as it did. -/
def ifdReadsUptoRow : OpenClaim := { program := "ytkdkhngdilhneaa", sum := "bc2ce6a22da9b208c19a32cb9924a23a0b79af073e58b80391cbdca76431a11f", func := "mezzotint/mezzotintlaw22.IfdReads", spec := "ifdReads", inPlace := ["math/bits.Add64"], unfollowed := true, recurses := true, apart := false, narrowed := true }
def IfdReadsUptoSaid : Prop := ifdReadsUptoRow.holds Try.pinned (OpenSpec.upto ifdReadsSpec)

/-- 'mezzotintlaw22.IfdAgain', WHERE WHAT IT READS IS OF BULK AT MOST 1048576: true; the input reads as it did. -/
def ifdAgainUptoRow : OpenClaim := { program := "ytkdkhngdilhneaa", sum := "bc2ce6a22da9b208c19a32cb9924a23a0b79af073e58b80391cbdca76431a11f", func := "mezzotint/mezzotintlaw22.IfdAgain", spec := "ifdAgain", inPlace := ["math/bits.Add64"], unfollowed := true, recurses := true, apart := false, narrowed := true }
def IfdAgainUptoSaid : Prop := ifdAgainUptoRow.holds Try.pinned (OpenSpec.upto ifdAgainSpec)

end Rows
end Go.Proofs.Ytkdkhngdilhneaa
