/-
  No cell of these rows narrows 'for every input' (looked for: loops, veiled, ifaces, maps, wideKeys, modest, calm, conditions, laid).
  DERIVED. THE GIVEN ROWS OF THIS SEAT. 4 by the template 'for every input the law returns true; each argument reads behind the call as it read before'; 0 by the template 'total and deterministic' (their statements: YtdpkmfjjhpfdbaaTotals.lean).
  GIVEN WITH THE SEED: the statements are not yours to turn. If you find one false, say at which input.
  Laid BY PROGRAM, IN A SANDBOX (cutbox-rows.mjs): the forced cells as the released guide's own fill.sh prints them over the translation 820124ff4016c23f… (all of the seat's roots in one cut). By AI agents, Wed Nov 11 2026. No macro, syntax, notation, axiom, sorry.
-/
import Derived.Test.YtdpkmfjjhpfdbaaChecked
import GoSem.Claim
import GoSem.ClaimJoined
import GoSem.ClaimMapViews
import Derived.JoinedTies
import Derived.KernelRfl
namespace Go.Proofs.Ytdpkmfjjhpfdbaa
/- THE CELL 'sum', in the pinned program and in every row, IS THE sha256 OF THE DUMP (.gsa) THAT YtdpkmfjjhpfdbaaProg.lean LOADS. Nothing in Lean hashes anything: it is a label: what it is worth is what the hold of that sum in a sandbox is worth. -/
noncomputable def Try.pinned : Pinned := { name := "ytdpkmfjjhpfdbaa", sum := "820124ff4016c23f16cb1591f6f16d127211c6af2a88f4cd4bf063f7de34d7aa", checked := Try.checked }
namespace Rows
def none {H : Type} : Left H := { results := [], args := [] }

/-- 'mezzotintlaw34.OrientUpright': WHATEVER THE INPUT: true; the input reads as it did. -/
def orientUprightSpec : ChangeSpec := { name := "orientUpright", fn := fun _ => fun
  | [d1, d2, d3] => { results := [.lit (.bool true)], args := [d1, d2, d3] }
  | _ => none }
def orientUprightRow : OpenClaim := { program := "ytdpkmfjjhpfdbaa", sum := "820124ff4016c23f16cb1591f6f16d127211c6af2a88f4cd4bf063f7de34d7aa", func := "mezzotint/mezzotintlaw34.OrientUpright", spec := "orientUpright", apart := false }
def OrientUprightSaid : Prop := orientUprightRow.holds Try.pinned (OpenSpec.ofChange orientUprightSpec)

/-- ITS FALSE NEIGHBOUR: 'it returns false'. Refute it at one input. -/
def orientUprightWrong : ChangeSpec := { name := "orientUpright", fn := fun _ => fun
  | [d1, d2, d3] => { results := [.lit (.bool false)], args := [d1, d2, d3] }
  | _ => none }
def OrientUprightWrongFalsely : Prop := orientUprightRow.holds Try.pinned (OpenSpec.ofChange orientUprightWrong)

/-- 'mezzotintlaw34.OrientThen': WHATEVER THE INPUT: true; the input reads as it did. -/
def orientThenSpec : ChangeSpec := { name := "orientThen", fn := fun _ => fun
  | [d1, d2, d3] => { results := [.lit (.bool true)], args := [d1, d2, d3] }
  | _ => none }
def orientThenRow : OpenClaim := { program := "ytdpkmfjjhpfdbaa", sum := "820124ff4016c23f16cb1591f6f16d127211c6af2a88f4cd4bf063f7de34d7aa", func := "mezzotint/mezzotintlaw34.OrientThen", spec := "orientThen", apart := false }
def OrientThenSaid : Prop := orientThenRow.holds Try.pinned (OpenSpec.ofChange orientThenSpec)

/-- ITS FALSE NEIGHBOUR: 'it returns false'. Refute it at one input. -/
def orientThenWrong : ChangeSpec := { name := "orientThen", fn := fun _ => fun
  | [d1, d2, d3] => { results := [.lit (.bool false)], args := [d1, d2, d3] }
  | _ => none }
def OrientThenWrongFalsely : Prop := orientThenRow.holds Try.pinned (OpenSpec.ofChange orientThenWrong)

/-- 'mezzotintlaw34.OrientBack': WHATEVER THE INPUT: true; the input reads as it did. -/
def orientBackSpec : ChangeSpec := { name := "orientBack", fn := fun _ => fun
  | [d1, d2, d3] => { results := [.lit (.bool true)], args := [d1, d2, d3] }
  | _ => none }
def orientBackRow : OpenClaim := { program := "ytdpkmfjjhpfdbaa", sum := "820124ff4016c23f16cb1591f6f16d127211c6af2a88f4cd4bf063f7de34d7aa", func := "mezzotint/mezzotintlaw34.OrientBack", spec := "orientBack", apart := false }
def OrientBackSaid : Prop := orientBackRow.holds Try.pinned (OpenSpec.ofChange orientBackSpec)

/-- ITS FALSE NEIGHBOUR: 'it returns false'. Refute it at one input. -/
def orientBackWrong : ChangeSpec := { name := "orientBack", fn := fun _ => fun
  | [d1, d2, d3] => { results := [.lit (.bool false)], args := [d1, d2, d3] }
  | _ => none }
def OrientBackWrongFalsely : Prop := orientBackRow.holds Try.pinned (OpenSpec.ofChange orientBackWrong)

/-- 'mezzotintlaw34.OrientCells': WHATEVER THE INPUT: true; the input reads as it did. -/
def orientCellsSpec : ChangeSpec := { name := "orientCells", fn := fun _ => fun
  | [d1, d2, d3] => { results := [.lit (.bool true)], args := [d1, d2, d3] }
  | _ => none }
def orientCellsRow : OpenClaim := { program := "ytdpkmfjjhpfdbaa", sum := "820124ff4016c23f16cb1591f6f16d127211c6af2a88f4cd4bf063f7de34d7aa", func := "mezzotint/mezzotintlaw34.OrientCells", spec := "orientCells", recurses := true, apart := false }
def OrientCellsSaid : Prop := orientCellsRow.holds Try.pinned (OpenSpec.ofChange orientCellsSpec)

/-- ITS FALSE NEIGHBOUR: 'it returns false'. Refute it at one input. -/
def orientCellsWrong : ChangeSpec := { name := "orientCells", fn := fun _ => fun
  | [d1, d2, d3] => { results := [.lit (.bool false)], args := [d1, d2, d3] }
  | _ => none }
def OrientCellsWrongFalsely : Prop := orientCellsRow.holds Try.pinned (OpenSpec.ofChange orientCellsWrong)

/- THE SECOND FORM. 'bulk': how many values and letters a reading holds, each counted each time it is reached (what is shared counts as often as it is met; a slice's spare places count too). A statement '..UptoSaid' is the law's where the arguments, and the package variables that the reading takes, are together of bulk at most 1048576: NARROWER than '..Said'. Prove '..Said' where nothing that the law and all that it calls make is longer than what came in: it says more and counts as full. Else prove '..UptoSaid'. A law counts once. -/
mutual
def uptoBulk {H : Type} : DataW H → Nat
  | .lit (.string bytes) => bytes.length + 1
  | .lit _ => 1
  | .nil => 1
  | .ptr d => uptoBulk d + 1
  | .slice elems spare => uptoBulkAll elems + uptoBulkAll spare + 1
  | .agg parts => uptoBulkAll parts + 1
  | .iface _ d => uptoBulk d + 1
  | .map entries => uptoBulkEntries entries + 1
  | .held _ => 1
def uptoBulkAll {H : Type} : List (DataW H) → Nat
  | [] => 0
  | d :: r => uptoBulk d + uptoBulkAll r
def uptoBulkEntries {H : Type} : List (Lit × DataW H) → Nat
  | [] => 0
  | x :: r => uptoBulkEntry x + uptoBulkEntries r
def uptoBulkEntry {H : Type} : Lit × DataW H → Nat
  | (.string bytes, d) => bytes.length + uptoBulk d + 1
  | (_, d) => uptoBulk d + 1
 end
def uptoSmall : (H : Type) → List (DataW H) → Bool := fun _ ds => decide (uptoBulkAll ds ≤ 1048576)
def OpenSpec.upto (s : _root_.Go.ChangeSpec) : _root_.Go.OpenSpec := { _root_.Go.OpenSpec.ofChange s with cond := some uptoSmall }

/-- 'mezzotintlaw34.OrientUpright', WHERE WHAT IT READS IS OF BULK AT MOST 1048576: true; the input reads as it did. -/
def orientUprightUptoRow : OpenClaim := { program := "ytdpkmfjjhpfdbaa", sum := "820124ff4016c23f16cb1591f6f16d127211c6af2a88f4cd4bf063f7de34d7aa", func := "mezzotint/mezzotintlaw34.OrientUpright", spec := "orientUpright", apart := false, narrowed := true }
def OrientUprightUptoSaid : Prop := orientUprightUptoRow.holds Try.pinned (OpenSpec.upto orientUprightSpec)

/-- 'mezzotintlaw34.OrientThen', WHERE WHAT IT READS IS OF BULK AT MOST 1048576: true; the input reads as it did. -/
def orientThenUptoRow : OpenClaim := { program := "ytdpkmfjjhpfdbaa", sum := "820124ff4016c23f16cb1591f6f16d127211c6af2a88f4cd4bf063f7de34d7aa", func := "mezzotint/mezzotintlaw34.OrientThen", spec := "orientThen", apart := false, narrowed := true }
def OrientThenUptoSaid : Prop := orientThenUptoRow.holds Try.pinned (OpenSpec.upto orientThenSpec)

/-- 'mezzotintlaw34.OrientBack', WHERE WHAT IT READS IS OF BULK AT MOST 1048576: true; the input reads as it did. -/
def orientBackUptoRow : OpenClaim := { program := "ytdpkmfjjhpfdbaa", sum := "820124ff4016c23f16cb1591f6f16d127211c6af2a88f4cd4bf063f7de34d7aa", func := "mezzotint/mezzotintlaw34.OrientBack", spec := "orientBack", apart := false, narrowed := true }
def OrientBackUptoSaid : Prop := orientBackUptoRow.holds Try.pinned (OpenSpec.upto orientBackSpec)

/-- 'mezzotintlaw34.OrientCells', WHERE WHAT IT READS IS OF BULK AT MOST 1048576: true; the input reads as it did. -/
def orientCellsUptoRow : OpenClaim := { program := "ytdpkmfjjhpfdbaa", sum := "820124ff4016c23f16cb1591f6f16d127211c6af2a88f4cd4bf063f7de34d7aa", func := "mezzotint/mezzotintlaw34.OrientCells", spec := "orientCells", recurses := true, apart := false, narrowed := true }
def OrientCellsUptoSaid : Prop := orientCellsUptoRow.holds Try.pinned (OpenSpec.upto orientCellsSpec)

end Rows
end Go.Proofs.Ytdpkmfjjhpfdbaa
