/- What a call may count on of the world: whatever lay below a first world's end lies as it lay there; the tables of the library hold there what the program's text lays. No condition. -/
import Derived.WalkKit
import Derived.Lib.LaidTab
import Derived.Lib.ItoaNum
import Derived.Lib.Space
import Derived.Lib.TrailingZeros
import Derived.Lib.PrintData
import Derived.Shelf.Unicode.DecodeSlow
import Derived.Test.YthbdglibakjfbaaDoorProg
namespace Go.Eng
open Go.RowKit Go.Proofs
def bru64 : List Int := Lib.deBruijn64tab.map fun x : Nat => (x : Int)
/-- a first world and its tables -/
structure Lo where
  w0 : World
  sp : Lib.TabIs Tryd.prog w0 "strings.asciiSpace" .u8 Lib.asciiSpaceTab
  pw : Lib.TabIs Tryd.prog w0 "internal/strconv.uint64pow10" .u64 Lib.pow10Tab
  br : Lib.TabIs Tryd.prog w0 "math/bits.deBruijn64tab" .u8 bru64
  pt : Lib.PrintTabsAt 8 9 10 11 Lib.goPrintTabs w0
  ut : Lib.Utf8Tabs 4 5 w0
variable [Inhabited Lo]
/-- the first world -/
def lo0 : Lo := default
def low : World := lo0.w0
/-- the blocks of the first world; no walk writes them -/
def Gl (b : Nat) : Prop := b < low.heap.size
/-- what a call may count on -/
def Tw (w : World) : Prop := low.heap.size ≤ w.heap.size ∧ ∀ b, b < low.heap.size → w.heap[b]? = low.heap[b]?
theorem Tw.lt {w : World} (h : Tw w) {b : Nat} (hb : Gl b) : b < w.heap.size := Nat.lt_of_lt_of_le hb h.1
theorem Tw.keep {w w' : World} (h : Tw w) (hk : ∀ b, Gl b → w'.heap[b]? = w.heap[b]?) : Tw w' := by
  refine ⟨?_, fun b hb => (hk b hb).trans (h.2 b hb)⟩
  refine Nat.le_of_not_lt fun hlt => ?_
  have h1 := hk w'.heap.size hlt
  have h2 := h.2 w'.heap.size hlt
  rw [Array.getElem?_eq_none (Nat.le_refl _)] at h1
  rw [← h1, Array.getElem?_eq_getElem hlt] at h2
  cases h2
theorem Tw.self : Tw low := ⟨Nat.le_refl _, fun _ _ => rfl⟩
/-- what lies in a cell of the first world lies there -/
theorem Tw.cell {w : World} (h : Tw w) {g o : Nat} {v : Value} (hc : low.cell? ⟨g, o, none⟩ = some v) : w.cell? ⟨g, o, none⟩ = some v := by
  have hb : g < low.heap.size := by
    refine Nat.lt_of_not_le fun hle => ?_
    unfold World.cell? at hc
    rw [Array.getElem?_eq_none hle] at hc
    cases hc
  rw [World.cell?_of_block (w := low) (h.2 g hb)]
  exact hc
theorem Tw.tab {w : World} (h : Tw w) {nm : String} {k : IntKind} {zs : List Int} (ht : Lib.TabIs Tryd.prog low nm k zs) : Lib.TabIs Tryd.prog w nm k zs := by
  unfold Lib.TabIs World.var? at ht ⊢
  cases hg : Tryd.prog.globalNamed nm with
  | none => rw [hg] at ht; exact ht
  | some g =>
    rw [hg] at ht
    simp only [Option.bind_some] at ht ⊢
    have hb : g < low.heap.size := by
      refine Nat.lt_of_not_le fun hle => ?_
      rw [Array.getElem?_eq_none hle] at ht
      cases ht
    rw [h.2 g hb]
    exact ht
theorem Tw.space {w : World} (h : Tw w) : Lib.TabIs Tryd.prog w "strings.asciiSpace" .u8 Lib.asciiSpaceTab := h.tab lo0.sp
theorem Tw.pow {w : World} (h : Tw w) : Lib.TabIs Tryd.prog w "internal/strconv.uint64pow10" .u64 Lib.pow10Tab := h.tab lo0.pw
theorem Tw.bru {w : World} (h : Tw w) : Lib.TabIs Tryd.prog w "math/bits.deBruijn64tab" .u8 bru64 := h.tab lo0.br
theorem Tw.slc {w : World} (h : Tw w) {g : Nat} {k : IntKind} {t : List Nat} (ht : Lib.TabSlice g k t low) : Lib.TabSlice g k t w := by
  obtain ⟨R, o, c, h1, h2⟩ := ht
  exact ⟨R, o, c, h.cell h1, fun j hj => h.cell (h2 j hj)⟩
theorem Tw.print {w : World} (h : Tw w) : Lib.PrintTabsAt 8 9 10 11 Lib.goPrintTabs w := by
  obtain ⟨h1, h2, h3, h4, h5⟩ := lo0.pt
  exact ⟨h.slc h1, h.slc h2, h.slc h3, h.slc h4, h5⟩
theorem Tw.utf {w : World} (h : Tw w) : Lib.Utf8Tabs 4 5 w := by
  obtain ⟨h1, h2⟩ := lo0.ut
  exact ⟨fun c hc => h.cell (h1 c hc), fun i hi => ⟨h.cell (h2 i hi).1, h.cell (h2 i hi).2⟩⟩
end Go.Eng
