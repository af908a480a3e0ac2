/-
  No cell of these rows narrows 'for every input' (looked for: loops, veiled, ifaces, maps, wideKeys, modest, calm, conditions, laid).
  DERIVED. THE GIVEN ROWS OF THIS SEAT. 4 by the template 'for every input the law returns true; each argument reads behind the call as it read before'; 0 by the template 'total and deterministic' (their statements: YtjjjihdcpeodmaaTotals.lean).
  GIVEN WITH THE SEED: the statements are not yours to turn. If you find one false, say at which input.
  Laid BY PROGRAM, IN A SANDBOX (cutbox-rows.mjs): the forced cells as the released guide's own fill.sh prints them over the translation 56b12c3fc551967e… (all of the seat's roots in one cut). By AI agents, Wed Nov 11 2026. No macro, syntax, notation, axiom, sorry.
-/
import Derived.Test.YtjjjihdcpeodmaaChecked
import GoSem.Claim
import GoSem.ClaimJoined
import GoSem.ClaimMapViews
import Derived.JoinedTies
import Derived.KernelRfl
namespace Go.Proofs.Ytjjjihdcpeodmaa
/- THE CELL 'sum', in the pinned program and in every row, IS THE sha256 OF THE DUMP (.gsa) THAT YtjjjihdcpeodmaaProg.lean LOADS. Nothing in Lean hashes anything: it is a label: what it is worth is what the hold of that sum in a sandbox is worth. -/
noncomputable def Try.pinned : Pinned := { name := "ytjjjihdcpeodmaa", sum := "56b12c3fc551967e4030ddbef0e5677e596089f63a32cabf32afe3fd552f3462", checked := Try.checked }
namespace Rows
def none {H : Type} : Left H := { results := [], args := [] }

/-- 'mezzotintlaw21.FieldsSigned': WHATEVER THE INPUT: true; the input reads as it did. -/
def fieldsSignedSpec : ChangeSpec := { name := "fieldsSigned", fn := fun _ => fun
  | [d1, d2] => { results := [.lit (.bool true)], args := [d1, d2] }
  | _ => none }
def fieldsSignedRow : OpenClaim := { program := "ytjjjihdcpeodmaa", sum := "56b12c3fc551967e4030ddbef0e5677e596089f63a32cabf32afe3fd552f3462", func := "mezzotint/mezzotintlaw21.FieldsSigned", spec := "fieldsSigned", inPlace := ["math/bits.Add64"], apart := false }
def FieldsSignedSaid : Prop := fieldsSignedRow.holds Try.pinned (OpenSpec.ofChange fieldsSignedSpec)

/-- ITS FALSE NEIGHBOUR: 'it returns false'. Refute it at one input. -/
def fieldsSignedWrong : ChangeSpec := { name := "fieldsSigned", fn := fun _ => fun
  | [d1, d2] => { results := [.lit (.bool false)], args := [d1, d2] }
  | _ => none }
def FieldsSignedWrongFalsely : Prop := fieldsSignedRow.holds Try.pinned (OpenSpec.ofChange fieldsSignedWrong)

/-- 'mezzotintlaw21.FieldsReads': WHATEVER THE INPUT: true; the input reads as it did. -/
def fieldsReadsSpec : ChangeSpec := { name := "fieldsReads", fn := fun _ => fun
  | [d1, d2, d3] => { results := [.lit (.bool true)], args := [d1, d2, d3] }
  | _ => none }
def fieldsReadsRow : OpenClaim := { program := "ytjjjihdcpeodmaa", sum := "56b12c3fc551967e4030ddbef0e5677e596089f63a32cabf32afe3fd552f3462", func := "mezzotint/mezzotintlaw21.FieldsReads", spec := "fieldsReads", inPlace := ["math/bits.Add64"], apart := false }
def FieldsReadsSaid : Prop := fieldsReadsRow.holds Try.pinned (OpenSpec.ofChange fieldsReadsSpec)

/-- ITS FALSE NEIGHBOUR: 'it returns false'. Refute it at one input. -/
def fieldsReadsWrong : ChangeSpec := { name := "fieldsReads", fn := fun _ => fun
  | [d1, d2, d3] => { results := [.lit (.bool false)], args := [d1, d2, d3] }
  | _ => none }
def FieldsReadsWrongFalsely : Prop := fieldsReadsRow.holds Try.pinned (OpenSpec.ofChange fieldsReadsWrong)

/-- 'mezzotintlaw21.FieldsWrites': WHATEVER THE INPUT: true; the input reads as it did. -/
def fieldsWritesSpec : ChangeSpec := { name := "fieldsWrites", fn := fun _ => fun
  | [d1, d2, d3] => { results := [.lit (.bool true)], args := [d1, d2, d3] }
  | _ => none }
def fieldsWritesRow : OpenClaim := { program := "ytjjjihdcpeodmaa", sum := "56b12c3fc551967e4030ddbef0e5677e596089f63a32cabf32afe3fd552f3462", func := "mezzotint/mezzotintlaw21.FieldsWrites", spec := "fieldsWrites", inPlace := ["math/bits.Add64"], apart := false }
def FieldsWritesSaid : Prop := fieldsWritesRow.holds Try.pinned (OpenSpec.ofChange fieldsWritesSpec)

/-- ITS FALSE NEIGHBOUR: 'it returns false'. Refute it at one input. -/
def fieldsWritesWrong : ChangeSpec := { name := "fieldsWrites", fn := fun _ => fun
  | [d1, d2, d3] => { results := [.lit (.bool false)], args := [d1, d2, d3] }
  | _ => none }
def FieldsWritesWrongFalsely : Prop := fieldsWritesRow.holds Try.pinned (OpenSpec.ofChange fieldsWritesWrong)

/-- 'mezzotintlaw21.FieldsOrders': WHATEVER THE INPUT: true; the input reads as it did. -/
def fieldsOrdersSpec : ChangeSpec := { name := "fieldsOrders", fn := fun _ => fun
  | [d1, d2] => { results := [.lit (.bool true)], args := [d1, d2] }
  | _ => none }
def fieldsOrdersRow : OpenClaim := { program := "ytjjjihdcpeodmaa", sum := "56b12c3fc551967e4030ddbef0e5677e596089f63a32cabf32afe3fd552f3462", func := "mezzotint/mezzotintlaw21.FieldsOrders", spec := "fieldsOrders", inPlace := ["math/bits.Add64"], apart := false }
def FieldsOrdersSaid : Prop := fieldsOrdersRow.holds Try.pinned (OpenSpec.ofChange fieldsOrdersSpec)

/-- ITS FALSE NEIGHBOUR: 'it returns false'. Refute it at one input. -/
def fieldsOrdersWrong : ChangeSpec := { name := "fieldsOrders", fn := fun _ => fun
  | [d1, d2] => { results := [.lit (.bool false)], args := [d1, d2] }
  | _ => none }
def FieldsOrdersWrongFalsely : Prop := fieldsOrdersRow.holds Try.pinned (OpenSpec.ofChange fieldsOrdersWrong)

/- THE SECOND FORM. 'bulk': how many values and letters a reading holds, each counted each time it is reached (what is shared counts as often as it is met; a slice's spare places count too). A statement '..UptoSaid' is the law's where the arguments, and the package variables that the reading takes, are together of bulk at most 1048576: NARROWER than '..Said'. Prove '..Said' where nothing that the law and all that it calls make is longer than what came in: it says more and counts as full. Else prove '..UptoSaid'. A law counts once. -/
mutual
def uptoBulk {H : Type} : DataW H → Nat
  | .lit (.string bytes) => bytes.length + 1
  | .lit _ => 1
  | .nil => 1
  | .ptr d => uptoBulk d + 1
  | .slice elems spare => uptoBulkAll elems + uptoBulkAll spare + 1
  | .agg parts => uptoBulkAll parts + 1
  | .iface _ d => uptoBulk d + 1
  | .map entries => uptoBulkEntries entries + 1
  | .held _ => 1
def uptoBulkAll {H : Type} : List (DataW H) → Nat
  | [] => 0
  | d :: r => uptoBulk d + uptoBulkAll r
def uptoBulkEntries {H : Type} : List (Lit × DataW H) → Nat
  | [] => 0
  | x :: r => uptoBulkEntry x + uptoBulkEntries r
def uptoBulkEntry {H : Type} : Lit × DataW H → Nat
  | (.string bytes, d) => bytes.length + uptoBulk d + 1
  | (_, d) => uptoBulk d + 1
 end
def uptoSmall : (H : Type) → List (DataW H) → Bool := fun _ ds => decide (uptoBulkAll ds ≤ 1048576)
def OpenSpec.upto (s : _root_.Go.ChangeSpec) : _root_.Go.OpenSpec := { _root_.Go.OpenSpec.ofChange s with cond := some uptoSmall }

/-- 'mezzotintlaw21.FieldsSigned', WHERE WHAT IT READS IS OF BULK AT MOST 1048576: true; the input reads as it did. -/
def fieldsSignedUptoRow : OpenClaim := { program := "ytjjjihdcpeodmaa", sum := "56b12c3fc551967e4030ddbef0e5677e596089f63a32cabf32afe3fd552f3462", func := "mezzotint/mezzotintlaw21.FieldsSigned", spec := "fieldsSigned", inPlace := ["math/bits.Add64"], apart := false, narrowed := true }
def FieldsSignedUptoSaid : Prop := fieldsSignedUptoRow.holds Try.pinned (OpenSpec.upto fieldsSignedSpec)

/-- 'mezzotintlaw21.FieldsReads', WHERE WHAT IT READS IS OF BULK AT MOST 1048576: true; the input reads as it did. -/
def fieldsReadsUptoRow : OpenClaim := { program := "ytjjjihdcpeodmaa", sum := "56b12c3fc551967e4030ddbef0e5677e596089f63a32cabf32afe3fd552f3462", func := "mezzotint/mezzotintlaw21.FieldsReads", spec := "fieldsReads", inPlace := ["math/bits.Add64"], apart := false, narrowed := true }
def FieldsReadsUptoSaid : Prop := fieldsReadsUptoRow.holds Try.pinned (OpenSpec.upto fieldsReadsSpec)

/-- 'mezzotintlaw21.FieldsWrites', WHERE WHAT IT READS IS OF BULK AT MOST 1048576: true; the input reads as it did. -/
def fieldsWritesUptoRow : OpenClaim := { program := "ytjjjihdcpeodmaa", sum := "56b12c3fc551967e4030ddbef0e5677e596089f63a32cabf32afe3fd552f3462", func := "mezzotint/mezzotintlaw21.FieldsWrites", spec := "fieldsWrites", inPlace := ["math/bits.Add64"], apart := false, narrowed := true }
def FieldsWritesUptoSaid : Prop := fieldsWritesUptoRow.holds Try.pinned (OpenSpec.upto fieldsWritesSpec)

/-- 'mezzotintlaw21.FieldsOrders', WHERE WHAT IT READS IS OF BULK AT MOST 1048576: true; the input reads as it did. -/
def fieldsOrdersUptoRow : OpenClaim := { program := "ytjjjihdcpeodmaa", sum := "56b12c3fc551967e4030ddbef0e5677e596089f63a32cabf32afe3fd552f3462", func := "mezzotint/mezzotintlaw21.FieldsOrders", spec := "fieldsOrders", inPlace := ["math/bits.Add64"], apart := false, narrowed := true }
def FieldsOrdersUptoSaid : Prop := fieldsOrdersUptoRow.holds Try.pinned (OpenSpec.upto fieldsOrdersSpec)

end Rows
end Go.Proofs.Ytjjjihdcpeodmaa
