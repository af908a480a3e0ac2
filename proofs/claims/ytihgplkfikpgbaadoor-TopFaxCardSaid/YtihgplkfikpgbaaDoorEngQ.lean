/- What a call may count on of the world: the table of white space holds what the program's text lays. No condition. -/
import Derived.WalkKit
import Derived.Lib.LaidTab
import Derived.Lib.Space
import Derived.Test.YtihgplkfikpgbaaDoorProg
namespace Go.Eng
open Go.RowKit Go.Proofs
/-- the block of this variable; no walk writes it -/
def Gl (b : Nat) : Prop := Tryd.prog.globalNamed "strings.asciiSpace" = some b
/-- what a call may count on -/
def Tw (w : World) : Prop := Lib.TabIs Tryd.prog w "strings.asciiSpace" .u8 Lib.asciiSpaceTab
theorem Tw.lt {w : World} (h : Tw w) {b : Nat} (hb : Gl b) : b < w.heap.size := by
  unfold Tw Lib.TabIs World.var? at h
  unfold Gl at hb
  rw [hb] at h
  rcases Nat.lt_or_ge b w.heap.size with h' | h'
  · exact h'
  · simp [Array.getElem?_eq_none h'] at h
theorem Tw.keep {w w' : World} (h : Tw w) (hk : ∀ b, Gl b → w'.heap[b]? = w.heap[b]?) : Tw w' := by
  unfold Tw Lib.TabIs World.var? at h ⊢
  cases hg : Tryd.prog.globalNamed "strings.asciiSpace" with
  | none => rw [hg] at h; exact h
  | some g =>
    rw [hg] at h
    simp only [Option.bind_some] at h ⊢
    rw [hk g hg]
    exact h
end Go.Eng
