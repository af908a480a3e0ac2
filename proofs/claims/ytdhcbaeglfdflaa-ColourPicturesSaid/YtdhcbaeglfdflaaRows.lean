/-
  No cell of these rows narrows 'for every input' (looked for: loops, veiled, ifaces, maps, wideKeys, modest, calm, conditions, laid).
  DERIVED. THE GIVEN ROWS OF THIS SEAT. 4 by the template 'for every input the law returns true; each argument reads behind the call as it read before'; 0 by the template 'total and deterministic' (their statements: YtdhcbaeglfdflaaTotals.lean).
  GIVEN WITH THE SEED: the statements are not yours to turn. If you find one false, say at which input.
  Laid BY PROGRAM, IN A SANDBOX (cutbox-rows.mjs): the forced cells as the released guide's own fill.sh prints them over the translation a5ec7a6a4e6d6021… (all of the seat's roots in one cut). By AI agents, Wed Nov 11 2026. No macro, syntax, notation, axiom, sorry.
-/
import Derived.Test.YtdhcbaeglfdflaaChecked
import GoSem.Claim
import GoSem.ClaimJoined
import GoSem.ClaimMapViews
import Derived.JoinedTies
import Derived.KernelRfl
namespace Go.Proofs.Ytdhcbaeglfdflaa
/- THE CELL 'sum', in the pinned program and in every row, IS THE sha256 OF THE DUMP (.gsa) THAT YtdhcbaeglfdflaaProg.lean LOADS. Nothing in Lean hashes anything: it is a label: what it is worth is what the hold of that sum in a sandbox is worth. -/
noncomputable def Try.pinned : Pinned := { name := "ytdhcbaeglfdflaa", sum := "a5ec7a6a4e6d602196665d7a3223b3728df08cb717d4e90d3d7da9bb5b326565", checked := Try.checked }
namespace Rows
def none {H : Type} : Left H := { results := [], args := [] }

/-- 'mezzotintlaw33.ColourScales': WHATEVER THE INPUT: true; the input reads as it did. -/
def colourScalesSpec : ChangeSpec := { name := "colourScales", fn := fun _ => fun
  | [d1, d2, d3] => { results := [.lit (.bool true)], args := [d1, d2, d3] }
  | _ => none }
def colourScalesRow : OpenClaim := { program := "ytdhcbaeglfdflaa", sum := "a5ec7a6a4e6d602196665d7a3223b3728df08cb717d4e90d3d7da9bb5b326565", func := "mezzotint/mezzotintlaw33.ColourScales", spec := "colourScales", apart := false }
def ColourScalesSaid : Prop := colourScalesRow.holds Try.pinned (OpenSpec.ofChange colourScalesSpec)

/-- ITS FALSE NEIGHBOUR: 'it returns false'. Refute it at one input. -/
def colourScalesWrong : ChangeSpec := { name := "colourScales", fn := fun _ => fun
  | [d1, d2, d3] => { results := [.lit (.bool false)], args := [d1, d2, d3] }
  | _ => none }
def ColourScalesWrongFalsely : Prop := colourScalesRow.holds Try.pinned (OpenSpec.ofChange colourScalesWrong)

/-- 'mezzotintlaw33.ColourPixels': WHATEVER THE INPUT: true; the input reads as it did. -/
def colourPixelsSpec : ChangeSpec := { name := "colourPixels", fn := fun _ => fun
  | [d1, d2, d3] => { results := [.lit (.bool true)], args := [d1, d2, d3] }
  | _ => none }
def colourPixelsRow : OpenClaim := { program := "ytdhcbaeglfdflaa", sum := "a5ec7a6a4e6d602196665d7a3223b3728df08cb717d4e90d3d7da9bb5b326565", func := "mezzotint/mezzotintlaw33.ColourPixels", spec := "colourPixels", apart := false }
def ColourPixelsSaid : Prop := colourPixelsRow.holds Try.pinned (OpenSpec.ofChange colourPixelsSpec)

/-- ITS FALSE NEIGHBOUR: 'it returns false'. Refute it at one input. -/
def colourPixelsWrong : ChangeSpec := { name := "colourPixels", fn := fun _ => fun
  | [d1, d2, d3] => { results := [.lit (.bool false)], args := [d1, d2, d3] }
  | _ => none }
def ColourPixelsWrongFalsely : Prop := colourPixelsRow.holds Try.pinned (OpenSpec.ofChange colourPixelsWrong)

/-- 'mezzotintlaw33.ColourTurns': WHATEVER THE INPUT: true; the input reads as it did. -/
def colourTurnsSpec : ChangeSpec := { name := "colourTurns", fn := fun _ => fun
  | [d1, d2, d3] => { results := [.lit (.bool true)], args := [d1, d2, d3] }
  | _ => none }
def colourTurnsRow : OpenClaim := { program := "ytdhcbaeglfdflaa", sum := "a5ec7a6a4e6d602196665d7a3223b3728df08cb717d4e90d3d7da9bb5b326565", func := "mezzotint/mezzotintlaw33.ColourTurns", spec := "colourTurns", apart := false }
def ColourTurnsSaid : Prop := colourTurnsRow.holds Try.pinned (OpenSpec.ofChange colourTurnsSpec)

/-- ITS FALSE NEIGHBOUR: 'it returns false'. Refute it at one input. -/
def colourTurnsWrong : ChangeSpec := { name := "colourTurns", fn := fun _ => fun
  | [d1, d2, d3] => { results := [.lit (.bool false)], args := [d1, d2, d3] }
  | _ => none }
def ColourTurnsWrongFalsely : Prop := colourTurnsRow.holds Try.pinned (OpenSpec.ofChange colourTurnsWrong)

/-- 'mezzotintlaw33.ColourPictures': WHATEVER THE INPUT: true; the input reads as it did. -/
def colourPicturesSpec : ChangeSpec := { name := "colourPictures", fn := fun _ => fun
  | [d1, d2] => { results := [.lit (.bool true)], args := [d1, d2] }
  | _ => none }
def colourPicturesRow : OpenClaim := { program := "ytdhcbaeglfdflaa", sum := "a5ec7a6a4e6d602196665d7a3223b3728df08cb717d4e90d3d7da9bb5b326565", func := "mezzotint/mezzotintlaw33.ColourPictures", spec := "colourPictures", apart := false }
def ColourPicturesSaid : Prop := colourPicturesRow.holds Try.pinned (OpenSpec.ofChange colourPicturesSpec)

/-- ITS FALSE NEIGHBOUR: 'it returns false'. Refute it at one input. -/
def colourPicturesWrong : ChangeSpec := { name := "colourPictures", fn := fun _ => fun
  | [d1, d2] => { results := [.lit (.bool false)], args := [d1, d2] }
  | _ => none }
def ColourPicturesWrongFalsely : Prop := colourPicturesRow.holds Try.pinned (OpenSpec.ofChange colourPicturesWrong)

/- THE SECOND FORM. 'bulk': how many values and letters a reading holds, each counted each time it is reached (what is shared counts as often as it is met; a slice's spare places count too). A statement '..UptoSaid' is the law's where the arguments, and the package variables that the reading takes, are together of bulk at most 1048576: NARROWER than '..Said'. Prove '..Said' where nothing that the law and all that it calls make is longer than what came in: it says more and counts as full. Else prove '..UptoSaid'. A law counts once. -/
mutual
def uptoBulk {H : Type} : DataW H → Nat
  | .lit (.string bytes) => bytes.length + 1
  | .lit _ => 1
  | .nil => 1
  | .ptr d => uptoBulk d + 1
  | .slice elems spare => uptoBulkAll elems + uptoBulkAll spare + 1
  | .agg parts => uptoBulkAll parts + 1
  | .iface _ d => uptoBulk d + 1
  | .map entries => uptoBulkEntries entries + 1
  | .held _ => 1
def uptoBulkAll {H : Type} : List (DataW H) → Nat
  | [] => 0
  | d :: r => uptoBulk d + uptoBulkAll r
def uptoBulkEntries {H : Type} : List (Lit × DataW H) → Nat
  | [] => 0
  | x :: r => uptoBulkEntry x + uptoBulkEntries r
def uptoBulkEntry {H : Type} : Lit × DataW H → Nat
  | (.string bytes, d) => bytes.length + uptoBulk d + 1
  | (_, d) => uptoBulk d + 1
 end
def uptoSmall : (H : Type) → List (DataW H) → Bool := fun _ ds => decide (uptoBulkAll ds ≤ 1048576)
def OpenSpec.upto (s : _root_.Go.ChangeSpec) : _root_.Go.OpenSpec := { _root_.Go.OpenSpec.ofChange s with cond := some uptoSmall }

/-- 'mezzotintlaw33.ColourScales', WHERE WHAT IT READS IS OF BULK AT MOST 1048576: true; the input reads as it did. -/
def colourScalesUptoRow : OpenClaim := { program := "ytdhcbaeglfdflaa", sum := "a5ec7a6a4e6d602196665d7a3223b3728df08cb717d4e90d3d7da9bb5b326565", func := "mezzotint/mezzotintlaw33.ColourScales", spec := "colourScales", apart := false, narrowed := true }
def ColourScalesUptoSaid : Prop := colourScalesUptoRow.holds Try.pinned (OpenSpec.upto colourScalesSpec)

/-- 'mezzotintlaw33.ColourPixels', WHERE WHAT IT READS IS OF BULK AT MOST 1048576: true; the input reads as it did. -/
def colourPixelsUptoRow : OpenClaim := { program := "ytdhcbaeglfdflaa", sum := "a5ec7a6a4e6d602196665d7a3223b3728df08cb717d4e90d3d7da9bb5b326565", func := "mezzotint/mezzotintlaw33.ColourPixels", spec := "colourPixels", apart := false, narrowed := true }
def ColourPixelsUptoSaid : Prop := colourPixelsUptoRow.holds Try.pinned (OpenSpec.upto colourPixelsSpec)

/-- 'mezzotintlaw33.ColourTurns', WHERE WHAT IT READS IS OF BULK AT MOST 1048576: true; the input reads as it did. -/
def colourTurnsUptoRow : OpenClaim := { program := "ytdhcbaeglfdflaa", sum := "a5ec7a6a4e6d602196665d7a3223b3728df08cb717d4e90d3d7da9bb5b326565", func := "mezzotint/mezzotintlaw33.ColourTurns", spec := "colourTurns", apart := false, narrowed := true }
def ColourTurnsUptoSaid : Prop := colourTurnsUptoRow.holds Try.pinned (OpenSpec.upto colourTurnsSpec)

/-- 'mezzotintlaw33.ColourPictures', WHERE WHAT IT READS IS OF BULK AT MOST 1048576: true; the input reads as it did. -/
def colourPicturesUptoRow : OpenClaim := { program := "ytdhcbaeglfdflaa", sum := "a5ec7a6a4e6d602196665d7a3223b3728df08cb717d4e90d3d7da9bb5b326565", func := "mezzotint/mezzotintlaw33.ColourPictures", spec := "colourPictures", apart := false, narrowed := true }
def ColourPicturesUptoSaid : Prop := colourPicturesUptoRow.holds Try.pinned (OpenSpec.upto colourPicturesSpec)

end Rows
end Go.Proofs.Ytdhcbaeglfdflaa
