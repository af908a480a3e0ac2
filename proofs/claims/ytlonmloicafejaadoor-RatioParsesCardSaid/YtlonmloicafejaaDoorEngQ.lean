/- What a call may count on of the world: the table of powers of ten and the two error variables of package strconv hold what the program's text lays. No condition. -/
import Derived.WalkKit
import Derived.Lib.LaidTab
import Derived.Lib.ItoaNum
import Derived.Test.YtlonmloicafejaaDoorProg
namespace Go.Eng
open Go.RowKit Go.Proofs
/-- the blocks of these variables; no walk writes them -/
def Gl (b : Nat) : Prop := Tryd.prog.globalNamed "internal/strconv.uint64pow10" = some b ∨ Tryd.prog.globalNamed "strconv.ErrSyntax" = some b ∨ Tryd.prog.globalNamed "strconv.ErrRange" = some b
/-- what a call may count on -/
def Tw (w : World) : Prop := Lib.TabIs Tryd.prog w "internal/strconv.uint64pow10" .u64 Lib.pow10Tab ∧ (∃ tp p, w.var? Tryd.prog "strconv.ErrSyntax" = some #[.iface tp p]) ∧ ∃ tp p, w.var? Tryd.prog "strconv.ErrRange" = some #[.iface tp p]
theorem var_lt {P : Program} {w : World} {n : String} {g : Nat} {cs : Array Value} (hg : P.globalNamed n = some g) (h : w.var? P n = some cs) : g < w.heap.size := by
  unfold World.var? at h
  rw [hg] at h
  rcases Nat.lt_or_ge g w.heap.size with h' | h'
  · exact h'
  · simp [Array.getElem?_eq_none h'] at h
theorem var_keep {P : Program} {w w' : World} {n : String} (hk : ∀ b, P.globalNamed n = some b → w'.heap[b]? = w.heap[b]?) : w'.var? P n = w.var? P n := by
  unfold World.var?
  cases hg : P.globalNamed n with
  | none => rfl
  | some g => simp only [Option.bind_some]; rw [hk g hg]
theorem Tw.lt {w : World} (h : Tw w) {b : Nat} (hb : Gl b) : b < w.heap.size := by
  obtain ⟨h1, ⟨_, _, h2⟩, _, _, h3⟩ := h
  rcases hb with hb | hb | hb
  · exact var_lt hb h1
  · exact var_lt hb h2
  · exact var_lt hb h3
theorem Tw.keep {w w' : World} (h : Tw w) (hk : ∀ b, Gl b → w'.heap[b]? = w.heap[b]?) : Tw w' := by
  obtain ⟨h1, ⟨t2, p2, h2⟩, t3, p3, h3⟩ := h
  exact ⟨(var_keep fun b hb => hk b (.inl hb)).trans h1, ⟨t2, p2, (var_keep fun b hb => hk b (.inr (.inl hb))).trans h2⟩, t3, p3, (var_keep fun b hb => hk b (.inr (.inr hb))).trans h3⟩
end Go.Eng
