/- What a call may count on of the world: here nothing. -/
import Derived.WalkKit
namespace Go.Eng
open Go.RowKit
/-- blocks of which a call may count on something; no walk writes them -/
def Gl (_ : Nat) : Prop := False
/-- what a call may count on -/
def Tw (_ : World) : Prop := True
theorem Tw.lt {w : World} (_ : Tw w) {b : Nat} (hb : Gl b) : b < w.heap.size := hb.elim
theorem Tw.keep {w w' : World} (_ : Tw w) (_ : ∀ b, Gl b → w'.heap[b]? = w.heap[b]?) : Tw w' := trivial
end Go.Eng
