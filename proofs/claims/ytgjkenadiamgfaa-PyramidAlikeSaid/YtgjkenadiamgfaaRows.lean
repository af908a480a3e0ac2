/-
  No cell of these rows narrows 'for every input' (looked for: loops, veiled, ifaces, maps, wideKeys, modest, calm, conditions, laid).
  DERIVED. THE GIVEN ROWS OF THIS SEAT. 3 by the template 'for every input the law returns true; each argument reads behind the call as it read before'; 0 by the template 'total and deterministic' (their statements: YtgjkenadiamgfaaTotals.lean).
  GIVEN WITH THE SEED: the statements are not yours to turn. If you find one false, say at which input.
  Laid BY PROGRAM, IN A SANDBOX (cutbox-rows.mjs): the forced cells as the released guide's own fill.sh prints them over the translation cea3868e065700b5… (all of the seat's roots in one cut). By AI agents, Wed Nov 11 2026. No macro, syntax, notation, axiom, sorry.
-/
import Derived.Test.YtgjkenadiamgfaaChecked
import GoSem.Claim
import GoSem.ClaimJoined
import GoSem.ClaimMapViews
import Derived.JoinedTies
import Derived.KernelRfl
namespace Go.Proofs.Ytgjkenadiamgfaa
/- THE CELL 'sum', in the pinned program and in every row, IS THE sha256 OF THE DUMP (.gsa) THAT YtgjkenadiamgfaaProg.lean LOADS. Nothing in Lean hashes anything: it is a label: what it is worth is what the hold of that sum in a sandbox is worth. -/
noncomputable def Try.pinned : Pinned := { name := "ytgjkenadiamgfaa", sum := "cea3868e065700b5f87348bc0e4f84b80dc3ea2fd3b618da2c640681e6e3820a", checked := Try.checked }
namespace Rows
def none {H : Type} : Left H := { results := [], args := [] }

/-- 'mezzotintlaw35.PyramidCounts': WHATEVER THE INPUT: true; the input reads as it did. -/
def pyramidCountsSpec : ChangeSpec := { name := "pyramidCounts", fn := fun _ => fun
  | [d1, d2, d3] => { results := [.lit (.bool true)], args := [d1, d2, d3] }
  | _ => none }
def pyramidCountsRow : OpenClaim := { program := "ytgjkenadiamgfaa", sum := "cea3868e065700b5f87348bc0e4f84b80dc3ea2fd3b618da2c640681e6e3820a", func := "mezzotint/mezzotintlaw35.PyramidCounts", spec := "pyramidCounts", apart := false }
def PyramidCountsSaid : Prop := pyramidCountsRow.holds Try.pinned (OpenSpec.ofChange pyramidCountsSpec)

/-- ITS FALSE NEIGHBOUR: 'it returns false'. Refute it at one input. -/
def pyramidCountsWrong : ChangeSpec := { name := "pyramidCounts", fn := fun _ => fun
  | [d1, d2, d3] => { results := [.lit (.bool false)], args := [d1, d2, d3] }
  | _ => none }
def PyramidCountsWrongFalsely : Prop := pyramidCountsRow.holds Try.pinned (OpenSpec.ofChange pyramidCountsWrong)

/-- 'mezzotintlaw35.PyramidLevels': WHATEVER THE INPUT: true; the input reads as it did. -/
def pyramidLevelsSpec : ChangeSpec := { name := "pyramidLevels", fn := fun _ => fun
  | [d1, d2, d3] => { results := [.lit (.bool true)], args := [d1, d2, d3] }
  | _ => none }
def pyramidLevelsRow : OpenClaim := { program := "ytgjkenadiamgfaa", sum := "cea3868e065700b5f87348bc0e4f84b80dc3ea2fd3b618da2c640681e6e3820a", func := "mezzotint/mezzotintlaw35.PyramidLevels", spec := "pyramidLevels", apart := false }
def PyramidLevelsSaid : Prop := pyramidLevelsRow.holds Try.pinned (OpenSpec.ofChange pyramidLevelsSpec)

/-- ITS FALSE NEIGHBOUR: 'it returns false'. Refute it at one input. -/
def pyramidLevelsWrong : ChangeSpec := { name := "pyramidLevels", fn := fun _ => fun
  | [d1, d2, d3] => { results := [.lit (.bool false)], args := [d1, d2, d3] }
  | _ => none }
def PyramidLevelsWrongFalsely : Prop := pyramidLevelsRow.holds Try.pinned (OpenSpec.ofChange pyramidLevelsWrong)

/-- 'mezzotintlaw35.PyramidAlike': WHATEVER THE INPUT: true; the input reads as it did. -/
def pyramidAlikeSpec : ChangeSpec := { name := "pyramidAlike", fn := fun _ => fun
  | [d1, d2, d3] => { results := [.lit (.bool true)], args := [d1, d2, d3] }
  | _ => none }
def pyramidAlikeRow : OpenClaim := { program := "ytgjkenadiamgfaa", sum := "cea3868e065700b5f87348bc0e4f84b80dc3ea2fd3b618da2c640681e6e3820a", func := "mezzotint/mezzotintlaw35.PyramidAlike", spec := "pyramidAlike", apart := false }
def PyramidAlikeSaid : Prop := pyramidAlikeRow.holds Try.pinned (OpenSpec.ofChange pyramidAlikeSpec)

/-- ITS FALSE NEIGHBOUR: 'it returns false'. Refute it at one input. -/
def pyramidAlikeWrong : ChangeSpec := { name := "pyramidAlike", fn := fun _ => fun
  | [d1, d2, d3] => { results := [.lit (.bool false)], args := [d1, d2, d3] }
  | _ => none }
def PyramidAlikeWrongFalsely : Prop := pyramidAlikeRow.holds Try.pinned (OpenSpec.ofChange pyramidAlikeWrong)

/- THE SECOND FORM. 'bulk': how many values and letters a reading holds, each counted each time it is reached (what is shared counts as often as it is met; a slice's spare places count too). A statement '..UptoSaid' is the law's where the arguments, and the package variables that the reading takes, are together of bulk at most 1048576: NARROWER than '..Said'. Prove '..Said' where nothing that the law and all that it calls make is longer than what came in: it says more and counts as full. Else prove '..UptoSaid'. A law counts once. -/
mutual
def uptoBulk {H : Type} : DataW H → Nat
  | .lit (.string bytes) => bytes.length + 1
  | .lit _ => 1
  | .nil => 1
  | .ptr d => uptoBulk d + 1
  | .slice elems spare => uptoBulkAll elems + uptoBulkAll spare + 1
  | .agg parts => uptoBulkAll parts + 1
  | .iface _ d => uptoBulk d + 1
  | .map entries => uptoBulkEntries entries + 1
  | .held _ => 1
def uptoBulkAll {H : Type} : List (DataW H) → Nat
  | [] => 0
  | d :: r => uptoBulk d + uptoBulkAll r
def uptoBulkEntries {H : Type} : List (Lit × DataW H) → Nat
  | [] => 0
  | x :: r => uptoBulkEntry x + uptoBulkEntries r
def uptoBulkEntry {H : Type} : Lit × DataW H → Nat
  | (.string bytes, d) => bytes.length + uptoBulk d + 1
  | (_, d) => uptoBulk d + 1
 end
def uptoSmall : (H : Type) → List (DataW H) → Bool := fun _ ds => decide (uptoBulkAll ds ≤ 1048576)
def OpenSpec.upto (s : _root_.Go.ChangeSpec) : _root_.Go.OpenSpec := { _root_.Go.OpenSpec.ofChange s with cond := some uptoSmall }

/-- 'mezzotintlaw35.PyramidCounts', WHERE WHAT IT READS IS OF BULK AT MOST 1048576: true; the input reads as it did. -/
def pyramidCountsUptoRow : OpenClaim := { program := "ytgjkenadiamgfaa", sum := "cea3868e065700b5f87348bc0e4f84b80dc3ea2fd3b618da2c640681e6e3820a", func := "mezzotint/mezzotintlaw35.PyramidCounts", spec := "pyramidCounts", apart := false, narrowed := true }
def PyramidCountsUptoSaid : Prop := pyramidCountsUptoRow.holds Try.pinned (OpenSpec.upto pyramidCountsSpec)

/-- 'mezzotintlaw35.PyramidLevels', WHERE WHAT IT READS IS OF BULK AT MOST 1048576: true; the input reads as it did. -/
def pyramidLevelsUptoRow : OpenClaim := { program := "ytgjkenadiamgfaa", sum := "cea3868e065700b5f87348bc0e4f84b80dc3ea2fd3b618da2c640681e6e3820a", func := "mezzotint/mezzotintlaw35.PyramidLevels", spec := "pyramidLevels", apart := false, narrowed := true }
def PyramidLevelsUptoSaid : Prop := pyramidLevelsUptoRow.holds Try.pinned (OpenSpec.upto pyramidLevelsSpec)

/-- 'mezzotintlaw35.PyramidAlike', WHERE WHAT IT READS IS OF BULK AT MOST 1048576: true; the input reads as it did. -/
def pyramidAlikeUptoRow : OpenClaim := { program := "ytgjkenadiamgfaa", sum := "cea3868e065700b5f87348bc0e4f84b80dc3ea2fd3b618da2c640681e6e3820a", func := "mezzotint/mezzotintlaw35.PyramidAlike", spec := "pyramidAlike", apart := false, narrowed := true }
def PyramidAlikeUptoSaid : Prop := pyramidAlikeUptoRow.holds Try.pinned (OpenSpec.upto pyramidAlikeSpec)

end Rows
end Go.Proofs.Ytgjkenadiamgfaa
