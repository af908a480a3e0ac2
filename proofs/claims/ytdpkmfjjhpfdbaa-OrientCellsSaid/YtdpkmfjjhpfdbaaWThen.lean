/- One turn, and another one, are one turn. No condition but what each says. -/
import Derived.Test.YtdpkmfjjhpfdbaaWRef
set_option linter.unusedSimpArgs false
set_option linter.unusedVariables false
set_option maxRecDepth 8000
set_option maxHeartbeats 2000000
namespace Go.Proofs.Ytdpkmfjjhpfdbaa
open Go.Eng Go.RowKit
def thnT : List Int := [1, 2, 3, 4, 5, 6, 7, 8, 2, 1, 4, 3, 8, 7, 6, 5, 3, 4, 1, 2, 7, 8, 5, 6, 4, 3, 2, 1, 6, 5, 8, 7, 5, 6, 7, 8, 1, 2, 3, 4, 6, 5, 8, 7, 4, 3, 2, 1, 7, 8, 5, 6, 3, 4, 1, 2, 8, 7, 6, 5, 2, 1, 4, 3]
def thn (a b : Int) : Int := thnT.getD ((a - 1) * 8 + (b - 1)).toNat 0
def g6 : List Int := [0, 1, 2, 3, 4, 5]
def Y6 (m : Int) : Nat × Nat × List Int := (upW m 3 2, upH m 3 2, upL m 3 2 g6)
def X6 (a b : Int) : Nat × Nat × List Int := (upW b (upW a 3 2) (upH a 3 2), upH b (upW a 3 2) (upH a 3 2), upL b (upW a 3 2) (upH a 3 2) (upL a 3 2 g6))
theorem thn_fin : ∀ a b : Fin 8, X6 ((a.val : Int) + 1) ((b.val : Int) + 1) = Y6 (thn ((a.val : Int) + 1) ((b.val : Int) + 1)) ∧ 1 ≤ thn ((a.val : Int) + 1) ((b.val : Int) + 1) ∧ thn ((a.val : Int) + 1) ((b.val : Int) + 1) ≤ 8 := by decide +kernel
theorem Y6_inj : ∀ a b : Fin 8, Y6 ((a.val : Int) + 1) = Y6 ((b.val : Int) + 1) → a = b := by decide +kernel
theorem thn_assoc : ∀ a b c : Fin 8, thn (thn ((a.val : Int) + 1) ((b.val : Int) + 1)) ((c.val : Int) + 1) = thn ((a.val : Int) + 1) (thn ((b.val : Int) + 1) ((c.val : Int) + 1)) := by decide +kernel
theorem way_fin {k : Int} (h : wayP k) : ∃ a : Fin 8, k = (a.val : Int) + 1 := ⟨⟨(k - 1).toNat, by unfold wayP at h; omega⟩, by unfold wayP at h; simp only; omega⟩
theorem thn_way {a b : Int} (ha : wayP a) (hb : wayP b) : X6 a b = Y6 (thn a b) ∧ wayP (thn a b) := by
  obtain ⟨i, rfl⟩ := way_fin ha
  obtain ⟨j, rfl⟩ := way_fin hb
  obtain ⟨h1, h2, h3⟩ := thn_fin i j
  exact ⟨h1, h2, h3⟩
theorem thn_ass {a b c : Int} (ha : wayP a) (hb : wayP b) (hc : wayP c) : thn (thn a b) c = thn a (thn b c) := by
  obtain ⟨i, rfl⟩ := way_fin ha
  obtain ⟨j, rfl⟩ := way_fin hb
  obtain ⟨k, rfl⟩ := way_fin hc
  exact thn_assoc i j k
theorem Y6_ne {m n : Int} (hm : wayP m) (hn : wayP n) (h : Y6 m = Y6 n) : m = n := by
  obtain ⟨i, rfl⟩ := way_fin hm
  obtain ⟨j, rfl⟩ := way_fin hn
  rw [Y6_inj i j h]
/-- where a turn behind a turn looks -/
theorem tt {a b : Int} (ha : wayP a) (hb : wayP b) (W H x y : Nat) : ∀ p q : Int, p = tX b x y (upW a W H) (upH a W H) → q = tY b x y (upW a W H) (upH a W H) →
    tX a p q W H = tX (thn a b) x y W H ∧ tY a p q W H = tY (thn a b) x y W H ∧ upW b (upW a W H) (upH a W H) = upW (thn a b) W H ∧ upH b (upW a W H) (upH a W H) = upH (thn a b) W H := by
  intro p q hp hq
  obtain rfl | rfl | rfl | rfl | rfl | rfl | rfl | rfl : a = 1 ∨ a = 2 ∨ a = 3 ∨ a = 4 ∨ a = 5 ∨ a = 6 ∨ a = 7 ∨ a = 8 := by unfold wayP at ha; omega
  · obtain rfl | rfl | rfl | rfl | rfl | rfl | rfl | rfl : b = 1 ∨ b = 2 ∨ b = 3 ∨ b = 4 ∨ b = 5 ∨ b = 6 ∨ b = 7 ∨ b = 8 := by unfold wayP at hb; omega
    · rw [show thn 1 1 = 1 from rfl]
      simp only [tX, tY, upW, upH, Int.reduceEq, Int.reduceLE, if_true, if_false, false_or, or_false, or_true, true_or] at hp hq ⊢
      refine ⟨?_, ?_, ?_, ?_⟩ <;> first | omega | trivial
    · rw [show thn 1 2 = 2 from rfl]
      simp only [tX, tY, upW, upH, Int.reduceEq, Int.reduceLE, if_true, if_false, false_or, or_false, or_true, true_or] at hp hq ⊢
      refine ⟨?_, ?_, ?_, ?_⟩ <;> first | omega | trivial
    · rw [show thn 1 3 = 3 from rfl]
      simp only [tX, tY, upW, upH, Int.reduceEq, Int.reduceLE, if_true, if_false, false_or, or_false, or_true, true_or] at hp hq ⊢
      refine ⟨?_, ?_, ?_, ?_⟩ <;> first | omega | trivial
    · rw [show thn 1 4 = 4 from rfl]
      simp only [tX, tY, upW, upH, Int.reduceEq, Int.reduceLE, if_true, if_false, false_or, or_false, or_true, true_or] at hp hq ⊢
      refine ⟨?_, ?_, ?_, ?_⟩ <;> first | omega | trivial
    · rw [show thn 1 5 = 5 from rfl]
      simp only [tX, tY, upW, upH, Int.reduceEq, Int.reduceLE, if_true, if_false, false_or, or_false, or_true, true_or] at hp hq ⊢
      refine ⟨?_, ?_, ?_, ?_⟩ <;> first | omega | trivial
    · rw [show thn 1 6 = 6 from rfl]
      simp only [tX, tY, upW, upH, Int.reduceEq, Int.reduceLE, if_true, if_false, false_or, or_false, or_true, true_or] at hp hq ⊢
      refine ⟨?_, ?_, ?_, ?_⟩ <;> first | omega | trivial
    · rw [show thn 1 7 = 7 from rfl]
      simp only [tX, tY, upW, upH, Int.reduceEq, Int.reduceLE, if_true, if_false, false_or, or_false, or_true, true_or] at hp hq ⊢
      refine ⟨?_, ?_, ?_, ?_⟩ <;> first | omega | trivial
    · rw [show thn 1 8 = 8 from rfl]
      simp only [tX, tY, upW, upH, Int.reduceEq, Int.reduceLE, if_true, if_false, false_or, or_false, or_true, true_or] at hp hq ⊢
      refine ⟨?_, ?_, ?_, ?_⟩ <;> first | omega | trivial
  · obtain rfl | rfl | rfl | rfl | rfl | rfl | rfl | rfl : b = 1 ∨ b = 2 ∨ b = 3 ∨ b = 4 ∨ b = 5 ∨ b = 6 ∨ b = 7 ∨ b = 8 := by unfold wayP at hb; omega
    · rw [show thn 2 1 = 2 from rfl]
      simp only [tX, tY, upW, upH, Int.reduceEq, Int.reduceLE, if_true, if_false, false_or, or_false, or_true, true_or] at hp hq ⊢
      refine ⟨?_, ?_, ?_, ?_⟩ <;> first | omega | trivial
    · rw [show thn 2 2 = 1 from rfl]
      simp only [tX, tY, upW, upH, Int.reduceEq, Int.reduceLE, if_true, if_false, false_or, or_false, or_true, true_or] at hp hq ⊢
      refine ⟨?_, ?_, ?_, ?_⟩ <;> first | omega | trivial
    · rw [show thn 2 3 = 4 from rfl]
      simp only [tX, tY, upW, upH, Int.reduceEq, Int.reduceLE, if_true, if_false, false_or, or_false, or_true, true_or] at hp hq ⊢
      refine ⟨?_, ?_, ?_, ?_⟩ <;> first | omega | trivial
    · rw [show thn 2 4 = 3 from rfl]
      simp only [tX, tY, upW, upH, Int.reduceEq, Int.reduceLE, if_true, if_false, false_or, or_false, or_true, true_or] at hp hq ⊢
      refine ⟨?_, ?_, ?_, ?_⟩ <;> first | omega | trivial
    · rw [show thn 2 5 = 8 from rfl]
      simp only [tX, tY, upW, upH, Int.reduceEq, Int.reduceLE, if_true, if_false, false_or, or_false, or_true, true_or] at hp hq ⊢
      refine ⟨?_, ?_, ?_, ?_⟩ <;> first | omega | trivial
    · rw [show thn 2 6 = 7 from rfl]
      simp only [tX, tY, upW, upH, Int.reduceEq, Int.reduceLE, if_true, if_false, false_or, or_false, or_true, true_or] at hp hq ⊢
      refine ⟨?_, ?_, ?_, ?_⟩ <;> first | omega | trivial
    · rw [show thn 2 7 = 6 from rfl]
      simp only [tX, tY, upW, upH, Int.reduceEq, Int.reduceLE, if_true, if_false, false_or, or_false, or_true, true_or] at hp hq ⊢
      refine ⟨?_, ?_, ?_, ?_⟩ <;> first | omega | trivial
    · rw [show thn 2 8 = 5 from rfl]
      simp only [tX, tY, upW, upH, Int.reduceEq, Int.reduceLE, if_true, if_false, false_or, or_false, or_true, true_or] at hp hq ⊢
      refine ⟨?_, ?_, ?_, ?_⟩ <;> first | omega | trivial
  · obtain rfl | rfl | rfl | rfl | rfl | rfl | rfl | rfl : b = 1 ∨ b = 2 ∨ b = 3 ∨ b = 4 ∨ b = 5 ∨ b = 6 ∨ b = 7 ∨ b = 8 := by unfold wayP at hb; omega
    · rw [show thn 3 1 = 3 from rfl]
      simp only [tX, tY, upW, upH, Int.reduceEq, Int.reduceLE, if_true, if_false, false_or, or_false, or_true, true_or] at hp hq ⊢
      refine ⟨?_, ?_, ?_, ?_⟩ <;> first | omega | trivial
    · rw [show thn 3 2 = 4 from rfl]
      simp only [tX, tY, upW, upH, Int.reduceEq, Int.reduceLE, if_true, if_false, false_or, or_false, or_true, true_or] at hp hq ⊢
      refine ⟨?_, ?_, ?_, ?_⟩ <;> first | omega | trivial
    · rw [show thn 3 3 = 1 from rfl]
      simp only [tX, tY, upW, upH, Int.reduceEq, Int.reduceLE, if_true, if_false, false_or, or_false, or_true, true_or] at hp hq ⊢
      refine ⟨?_, ?_, ?_, ?_⟩ <;> first | omega | trivial
    · rw [show thn 3 4 = 2 from rfl]
      simp only [tX, tY, upW, upH, Int.reduceEq, Int.reduceLE, if_true, if_false, false_or, or_false, or_true, true_or] at hp hq ⊢
      refine ⟨?_, ?_, ?_, ?_⟩ <;> first | omega | trivial
    · rw [show thn 3 5 = 7 from rfl]
      simp only [tX, tY, upW, upH, Int.reduceEq, Int.reduceLE, if_true, if_false, false_or, or_false, or_true, true_or] at hp hq ⊢
      refine ⟨?_, ?_, ?_, ?_⟩ <;> first | omega | trivial
    · rw [show thn 3 6 = 8 from rfl]
      simp only [tX, tY, upW, upH, Int.reduceEq, Int.reduceLE, if_true, if_false, false_or, or_false, or_true, true_or] at hp hq ⊢
      refine ⟨?_, ?_, ?_, ?_⟩ <;> first | omega | trivial
    · rw [show thn 3 7 = 5 from rfl]
      simp only [tX, tY, upW, upH, Int.reduceEq, Int.reduceLE, if_true, if_false, false_or, or_false, or_true, true_or] at hp hq ⊢
      refine ⟨?_, ?_, ?_, ?_⟩ <;> first | omega | trivial
    · rw [show thn 3 8 = 6 from rfl]
      simp only [tX, tY, upW, upH, Int.reduceEq, Int.reduceLE, if_true, if_false, false_or, or_false, or_true, true_or] at hp hq ⊢
      refine ⟨?_, ?_, ?_, ?_⟩ <;> first | omega | trivial
  · obtain rfl | rfl | rfl | rfl | rfl | rfl | rfl | rfl : b = 1 ∨ b = 2 ∨ b = 3 ∨ b = 4 ∨ b = 5 ∨ b = 6 ∨ b = 7 ∨ b = 8 := by unfold wayP at hb; omega
    · rw [show thn 4 1 = 4 from rfl]
      simp only [tX, tY, upW, upH, Int.reduceEq, Int.reduceLE, if_true, if_false, false_or, or_false, or_true, true_or] at hp hq ⊢
      refine ⟨?_, ?_, ?_, ?_⟩ <;> first | omega | trivial
    · rw [show thn 4 2 = 3 from rfl]
      simp only [tX, tY, upW, upH, Int.reduceEq, Int.reduceLE, if_true, if_false, false_or, or_false, or_true, true_or] at hp hq ⊢
      refine ⟨?_, ?_, ?_, ?_⟩ <;> first | omega | trivial
    · rw [show thn 4 3 = 2 from rfl]
      simp only [tX, tY, upW, upH, Int.reduceEq, Int.reduceLE, if_true, if_false, false_or, or_false, or_true, true_or] at hp hq ⊢
      refine ⟨?_, ?_, ?_, ?_⟩ <;> first | omega | trivial
    · rw [show thn 4 4 = 1 from rfl]
      simp only [tX, tY, upW, upH, Int.reduceEq, Int.reduceLE, if_true, if_false, false_or, or_false, or_true, true_or] at hp hq ⊢
      refine ⟨?_, ?_, ?_, ?_⟩ <;> first | omega | trivial
    · rw [show thn 4 5 = 6 from rfl]
      simp only [tX, tY, upW, upH, Int.reduceEq, Int.reduceLE, if_true, if_false, false_or, or_false, or_true, true_or] at hp hq ⊢
      refine ⟨?_, ?_, ?_, ?_⟩ <;> first | omega | trivial
    · rw [show thn 4 6 = 5 from rfl]
      simp only [tX, tY, upW, upH, Int.reduceEq, Int.reduceLE, if_true, if_false, false_or, or_false, or_true, true_or] at hp hq ⊢
      refine ⟨?_, ?_, ?_, ?_⟩ <;> first | omega | trivial
    · rw [show thn 4 7 = 8 from rfl]
      simp only [tX, tY, upW, upH, Int.reduceEq, Int.reduceLE, if_true, if_false, false_or, or_false, or_true, true_or] at hp hq ⊢
      refine ⟨?_, ?_, ?_, ?_⟩ <;> first | omega | trivial
    · rw [show thn 4 8 = 7 from rfl]
      simp only [tX, tY, upW, upH, Int.reduceEq, Int.reduceLE, if_true, if_false, false_or, or_false, or_true, true_or] at hp hq ⊢
      refine ⟨?_, ?_, ?_, ?_⟩ <;> first | omega | trivial
  · obtain rfl | rfl | rfl | rfl | rfl | rfl | rfl | rfl : b = 1 ∨ b = 2 ∨ b = 3 ∨ b = 4 ∨ b = 5 ∨ b = 6 ∨ b = 7 ∨ b = 8 := by unfold wayP at hb; omega
    · rw [show thn 5 1 = 5 from rfl]
      simp only [tX, tY, upW, upH, Int.reduceEq, Int.reduceLE, if_true, if_false, false_or, or_false, or_true, true_or] at hp hq ⊢
      refine ⟨?_, ?_, ?_, ?_⟩ <;> first | omega | trivial
    · rw [show thn 5 2 = 6 from rfl]
      simp only [tX, tY, upW, upH, Int.reduceEq, Int.reduceLE, if_true, if_false, false_or, or_false, or_true, true_or] at hp hq ⊢
      refine ⟨?_, ?_, ?_, ?_⟩ <;> first | omega | trivial
    · rw [show thn 5 3 = 7 from rfl]
      simp only [tX, tY, upW, upH, Int.reduceEq, Int.reduceLE, if_true, if_false, false_or, or_false, or_true, true_or] at hp hq ⊢
      refine ⟨?_, ?_, ?_, ?_⟩ <;> first | omega | trivial
    · rw [show thn 5 4 = 8 from rfl]
      simp only [tX, tY, upW, upH, Int.reduceEq, Int.reduceLE, if_true, if_false, false_or, or_false, or_true, true_or] at hp hq ⊢
      refine ⟨?_, ?_, ?_, ?_⟩ <;> first | omega | trivial
    · rw [show thn 5 5 = 1 from rfl]
      simp only [tX, tY, upW, upH, Int.reduceEq, Int.reduceLE, if_true, if_false, false_or, or_false, or_true, true_or] at hp hq ⊢
      refine ⟨?_, ?_, ?_, ?_⟩ <;> first | omega | trivial
    · rw [show thn 5 6 = 2 from rfl]
      simp only [tX, tY, upW, upH, Int.reduceEq, Int.reduceLE, if_true, if_false, false_or, or_false, or_true, true_or] at hp hq ⊢
      refine ⟨?_, ?_, ?_, ?_⟩ <;> first | omega | trivial
    · rw [show thn 5 7 = 3 from rfl]
      simp only [tX, tY, upW, upH, Int.reduceEq, Int.reduceLE, if_true, if_false, false_or, or_false, or_true, true_or] at hp hq ⊢
      refine ⟨?_, ?_, ?_, ?_⟩ <;> first | omega | trivial
    · rw [show thn 5 8 = 4 from rfl]
      simp only [tX, tY, upW, upH, Int.reduceEq, Int.reduceLE, if_true, if_false, false_or, or_false, or_true, true_or] at hp hq ⊢
      refine ⟨?_, ?_, ?_, ?_⟩ <;> first | omega | trivial
  · obtain rfl | rfl | rfl | rfl | rfl | rfl | rfl | rfl : b = 1 ∨ b = 2 ∨ b = 3 ∨ b = 4 ∨ b = 5 ∨ b = 6 ∨ b = 7 ∨ b = 8 := by unfold wayP at hb; omega
    · rw [show thn 6 1 = 6 from rfl]
      simp only [tX, tY, upW, upH, Int.reduceEq, Int.reduceLE, if_true, if_false, false_or, or_false, or_true, true_or] at hp hq ⊢
      refine ⟨?_, ?_, ?_, ?_⟩ <;> first | omega | trivial
    · rw [show thn 6 2 = 5 from rfl]
      simp only [tX, tY, upW, upH, Int.reduceEq, Int.reduceLE, if_true, if_false, false_or, or_false, or_true, true_or] at hp hq ⊢
      refine ⟨?_, ?_, ?_, ?_⟩ <;> first | omega | trivial
    · rw [show thn 6 3 = 8 from rfl]
      simp only [tX, tY, upW, upH, Int.reduceEq, Int.reduceLE, if_true, if_false, false_or, or_false, or_true, true_or] at hp hq ⊢
      refine ⟨?_, ?_, ?_, ?_⟩ <;> first | omega | trivial
    · rw [show thn 6 4 = 7 from rfl]
      simp only [tX, tY, upW, upH, Int.reduceEq, Int.reduceLE, if_true, if_false, false_or, or_false, or_true, true_or] at hp hq ⊢
      refine ⟨?_, ?_, ?_, ?_⟩ <;> first | omega | trivial
    · rw [show thn 6 5 = 4 from rfl]
      simp only [tX, tY, upW, upH, Int.reduceEq, Int.reduceLE, if_true, if_false, false_or, or_false, or_true, true_or] at hp hq ⊢
      refine ⟨?_, ?_, ?_, ?_⟩ <;> first | omega | trivial
    · rw [show thn 6 6 = 3 from rfl]
      simp only [tX, tY, upW, upH, Int.reduceEq, Int.reduceLE, if_true, if_false, false_or, or_false, or_true, true_or] at hp hq ⊢
      refine ⟨?_, ?_, ?_, ?_⟩ <;> first | omega | trivial
    · rw [show thn 6 7 = 2 from rfl]
      simp only [tX, tY, upW, upH, Int.reduceEq, Int.reduceLE, if_true, if_false, false_or, or_false, or_true, true_or] at hp hq ⊢
      refine ⟨?_, ?_, ?_, ?_⟩ <;> first | omega | trivial
    · rw [show thn 6 8 = 1 from rfl]
      simp only [tX, tY, upW, upH, Int.reduceEq, Int.reduceLE, if_true, if_false, false_or, or_false, or_true, true_or] at hp hq ⊢
      refine ⟨?_, ?_, ?_, ?_⟩ <;> first | omega | trivial
  · obtain rfl | rfl | rfl | rfl | rfl | rfl | rfl | rfl : b = 1 ∨ b = 2 ∨ b = 3 ∨ b = 4 ∨ b = 5 ∨ b = 6 ∨ b = 7 ∨ b = 8 := by unfold wayP at hb; omega
    · rw [show thn 7 1 = 7 from rfl]
      simp only [tX, tY, upW, upH, Int.reduceEq, Int.reduceLE, if_true, if_false, false_or, or_false, or_true, true_or] at hp hq ⊢
      refine ⟨?_, ?_, ?_, ?_⟩ <;> first | omega | trivial
    · rw [show thn 7 2 = 8 from rfl]
      simp only [tX, tY, upW, upH, Int.reduceEq, Int.reduceLE, if_true, if_false, false_or, or_false, or_true, true_or] at hp hq ⊢
      refine ⟨?_, ?_, ?_, ?_⟩ <;> first | omega | trivial
    · rw [show thn 7 3 = 5 from rfl]
      simp only [tX, tY, upW, upH, Int.reduceEq, Int.reduceLE, if_true, if_false, false_or, or_false, or_true, true_or] at hp hq ⊢
      refine ⟨?_, ?_, ?_, ?_⟩ <;> first | omega | trivial
    · rw [show thn 7 4 = 6 from rfl]
      simp only [tX, tY, upW, upH, Int.reduceEq, Int.reduceLE, if_true, if_false, false_or, or_false, or_true, true_or] at hp hq ⊢
      refine ⟨?_, ?_, ?_, ?_⟩ <;> first | omega | trivial
    · rw [show thn 7 5 = 3 from rfl]
      simp only [tX, tY, upW, upH, Int.reduceEq, Int.reduceLE, if_true, if_false, false_or, or_false, or_true, true_or] at hp hq ⊢
      refine ⟨?_, ?_, ?_, ?_⟩ <;> first | omega | trivial
    · rw [show thn 7 6 = 4 from rfl]
      simp only [tX, tY, upW, upH, Int.reduceEq, Int.reduceLE, if_true, if_false, false_or, or_false, or_true, true_or] at hp hq ⊢
      refine ⟨?_, ?_, ?_, ?_⟩ <;> first | omega | trivial
    · rw [show thn 7 7 = 1 from rfl]
      simp only [tX, tY, upW, upH, Int.reduceEq, Int.reduceLE, if_true, if_false, false_or, or_false, or_true, true_or] at hp hq ⊢
      refine ⟨?_, ?_, ?_, ?_⟩ <;> first | omega | trivial
    · rw [show thn 7 8 = 2 from rfl]
      simp only [tX, tY, upW, upH, Int.reduceEq, Int.reduceLE, if_true, if_false, false_or, or_false, or_true, true_or] at hp hq ⊢
      refine ⟨?_, ?_, ?_, ?_⟩ <;> first | omega | trivial
  · obtain rfl | rfl | rfl | rfl | rfl | rfl | rfl | rfl : b = 1 ∨ b = 2 ∨ b = 3 ∨ b = 4 ∨ b = 5 ∨ b = 6 ∨ b = 7 ∨ b = 8 := by unfold wayP at hb; omega
    · rw [show thn 8 1 = 8 from rfl]
      simp only [tX, tY, upW, upH, Int.reduceEq, Int.reduceLE, if_true, if_false, false_or, or_false, or_true, true_or] at hp hq ⊢
      refine ⟨?_, ?_, ?_, ?_⟩ <;> first | omega | trivial
    · rw [show thn 8 2 = 7 from rfl]
      simp only [tX, tY, upW, upH, Int.reduceEq, Int.reduceLE, if_true, if_false, false_or, or_false, or_true, true_or] at hp hq ⊢
      refine ⟨?_, ?_, ?_, ?_⟩ <;> first | omega | trivial
    · rw [show thn 8 3 = 6 from rfl]
      simp only [tX, tY, upW, upH, Int.reduceEq, Int.reduceLE, if_true, if_false, false_or, or_false, or_true, true_or] at hp hq ⊢
      refine ⟨?_, ?_, ?_, ?_⟩ <;> first | omega | trivial
    · rw [show thn 8 4 = 5 from rfl]
      simp only [tX, tY, upW, upH, Int.reduceEq, Int.reduceLE, if_true, if_false, false_or, or_false, or_true, true_or] at hp hq ⊢
      refine ⟨?_, ?_, ?_, ?_⟩ <;> first | omega | trivial
    · rw [show thn 8 5 = 2 from rfl]
      simp only [tX, tY, upW, upH, Int.reduceEq, Int.reduceLE, if_true, if_false, false_or, or_false, or_true, true_or] at hp hq ⊢
      refine ⟨?_, ?_, ?_, ?_⟩ <;> first | omega | trivial
    · rw [show thn 8 6 = 1 from rfl]
      simp only [tX, tY, upW, upH, Int.reduceEq, Int.reduceLE, if_true, if_false, false_or, or_false, or_true, true_or] at hp hq ⊢
      refine ⟨?_, ?_, ?_, ?_⟩ <;> first | omega | trivial
    · rw [show thn 8 7 = 4 from rfl]
      simp only [tX, tY, upW, upH, Int.reduceEq, Int.reduceLE, if_true, if_false, false_or, or_false, or_true, true_or] at hp hq ⊢
      refine ⟨?_, ?_, ?_, ?_⟩ <;> first | omega | trivial
    · rw [show thn 8 8 = 3 from rfl]
      simp only [tX, tY, upW, upH, Int.reduceEq, Int.reduceLE, if_true, if_false, false_or, or_false, or_true, true_or] at hp hq ⊢
      refine ⟨?_, ?_, ?_, ?_⟩ <;> first | omega | trivial
theorem up_up {a b : Int} (ha : wayP a) (hb : wayP b) (W H : Nat) (l : List Int) : upL b (upW a W H) (upH a W H) (upL a W H l) = upL (thn a b) W H l ∧ upW b (upW a W H) (upH a W H) = upW (thn a b) W H ∧ upH b (upW a W H) (upH a W H) = upH (thn a b) W H := by
  obtain ⟨_, _, h3, h4⟩ := tt ha hb W H 0 0 _ _ rfl rfl
  refine ⟨?_, h3, h4⟩
  rw [upL.eq_1 b, upL.eq_1 (thn a b), h3, h4]
  refine grL_congr fun y x hy hx => ?_
  rw [← h3] at hx
  rw [← h4] at hy
  obtain ⟨p, q, hp, hq, hpW, hqH⟩ := tXY (W := upW a W H) (H := upH a W H) hb hx hy
  obtain ⟨p', q', hp', hq', hpW', hqH'⟩ := tXY (W := W) (H := H) (x := p) (y := q) ha hpW hqH
  obtain ⟨e1, e2, _, _⟩ := tt ha hb W H x y p q hp.symm hq.symm
  rw [upG_at _ hp hq, upL, grL_at _ hpW hqH, upG_at l hp' hq', upG_at l (e1.symm.trans hp') (e2.symm.trans hq')]
theorem then_f (a b : Int) (h : ¬ (wayP a ∧ wayP b)) : Giv Try.prog 13 [.c (.int .i64 a), .c (.int .i64 b)] (retV [.c (.int .i64 0), .c (.int .i64 1)]) := by
  refine Giv.of mixed c13 (Nat.le_of_ble_eq_true rfl) ?_
  simp -dsimp -implicitDefEqProofs (disch := first | omega | (simp only [List.length_append, List.length_cons, List.length_nil, List.length_take, List.length_drop]; omega)) only [a13, ↓aPre, aPost, oneW, allOne, retV, retVA, ↓reduceIte, reduceCtorEq, Nat.reduceAdd, Nat.reduceSub, Nat.reduceMul, Nat.reduceLT, Nat.reduceLeDiff, Nat.reduceEqDiff, Nat.reduceDiv, Nat.reduceMod, Nat.reducePow, Int.reduceAdd, Int.reduceSub, Int.reduceMul, Int.reduceLT, Int.reduceLE, Int.reduceEq, Int.reduceNe, Int.reducePow, Int.reduceToNat, Int.reduceNeg]
  refine call_giv (way_giv a) ?_
  by_cases ha : wayP a
  · have hb : ¬ wayP b := fun hb => h ⟨ha, hb⟩
    simp -dsimp -implicitDefEqProofs (disch := first | omega | (simp only [List.length_append, List.length_cons, List.length_nil, List.length_take, List.length_drop]; omega)) only [ha, ↓aPre, aPost, oneW, allOne, retV, retVA, ↓reduceIte, reduceCtorEq, Nat.reduceAdd, Nat.reduceSub, Nat.reduceMul, Nat.reduceLT, Nat.reduceLeDiff, Nat.reduceEqDiff, Nat.reduceDiv, Nat.reduceMod, Nat.reducePow, Int.reduceAdd, Int.reduceSub, Int.reduceMul, Int.reduceLT, Int.reduceLE, Int.reduceEq, Int.reduceNe, Int.reducePow, Int.reduceToNat, Int.reduceNeg]
    refine call_giv (way_giv b) ?_
    simp -dsimp -implicitDefEqProofs (disch := first | omega | (simp only [List.length_append, List.length_cons, List.length_nil, List.length_take, List.length_drop]; omega)) only [ha, hb, ↓aPre, aPost, oneW, allOne, retV, retVA, ↓reduceIte, reduceCtorEq, Nat.reduceAdd, Nat.reduceSub, Nat.reduceMul, Nat.reduceLT, Nat.reduceLeDiff, Nat.reduceEqDiff, Nat.reduceDiv, Nat.reduceMod, Nat.reducePow, Int.reduceAdd, Int.reduceSub, Int.reduceMul, Int.reduceLT, Int.reduceLE, Int.reduceEq, Int.reduceNe, Int.reducePow, Int.reduceToNat, Int.reduceNeg]
    exact post_eq rfl
  · simp -dsimp -implicitDefEqProofs (disch := first | omega | (simp only [List.length_append, List.length_cons, List.length_nil, List.length_take, List.length_drop]; omega)) only [ha, ↓aPre, aPost, oneW, allOne, retV, retVA, ↓reduceIte, reduceCtorEq, Nat.reduceAdd, Nat.reduceSub, Nat.reduceMul, Nat.reduceLT, Nat.reduceLeDiff, Nat.reduceEqDiff, Nat.reduceDiv, Nat.reduceMod, Nat.reducePow, Int.reduceAdd, Int.reduceSub, Int.reduceMul, Int.reduceLT, Int.reduceLE, Int.reduceEq, Int.reduceNe, Int.reducePow, Int.reduceToNat, Int.reduceNeg]
    exact post_eq rfl
theorem small {k : Int} {W H : Nat} (h : W * H ≤ 4194304) : upW k W H * upH k W H ≤ 4194304 := by
  unfold upW upH
  split
  · rw [Nat.mul_comm]; exact h
  · exact h
theorem upW_le {k : Int} {W H n : Nat} (hW : W ≤ n) (hH : H ≤ n) : upW k W H ≤ n ∧ upH k W H ≤ n := by
  unfold upW upH
  split
  · exact ⟨hH, hW⟩
  · exact ⟨hW, hH⟩
theorem then_t (a b : Int) (ha : wayP a) (hb : wayP b) : Giv Try.prog 13 [.c (.int .i64 a), .c (.int .i64 b)] (retV [.c (.int .i64 (thn a b)), .c (.int .i64 0)]) := by
  refine Giv.of mixed c13 (Nat.le_of_ble_eq_true rfl) ?_
  obtain ⟨hX, hT⟩ := thn_way ha hb
  obtain ⟨A, hAe⟩ : ∃ A : Nat × Nat × List Int, A = Y6 a := ⟨_, rfl⟩
  obtain ⟨X, hXe⟩ : ∃ X : Nat × Nat × List Int, X = X6 a b := ⟨_, rfl⟩
  simp -dsimp -implicitDefEqProofs (disch := first | omega | (simp only [List.length_append, List.length_cons, List.length_nil, List.length_take, List.length_drop]; omega)) only [a13, ↓aPre, aPost, oneW, allOne, retV, retVA, ↓reduceIte, reduceCtorEq, Nat.reduceAdd, Nat.reduceSub, Nat.reduceMul, Nat.reduceLT, Nat.reduceLeDiff, Nat.reduceEqDiff, Nat.reduceDiv, Nat.reduceMod, Nat.reducePow, Int.reduceAdd, Int.reduceSub, Int.reduceMul, Int.reduceLT, Int.reduceLE, Int.reduceEq, Int.reduceNe, Int.reducePow, Int.reduceToNat, Int.reduceNeg]
  refine call_giv (way_giv a) ?_
  simp -dsimp -implicitDefEqProofs (disch := first | omega | (simp only [List.length_append, List.length_cons, List.length_nil, List.length_take, List.length_drop]; omega)) only [ha, ↓aPre, aPost, oneW, allOne, retV, retVA, ↓reduceIte, reduceCtorEq, Nat.reduceAdd, Nat.reduceSub, Nat.reduceMul, Nat.reduceLT, Nat.reduceLeDiff, Nat.reduceEqDiff, Nat.reduceDiv, Nat.reduceMod, Nat.reducePow, Int.reduceAdd, Int.reduceSub, Int.reduceMul, Int.reduceLT, Int.reduceLE, Int.reduceEq, Int.reduceNe, Int.reducePow, Int.reduceToNat, Int.reduceNeg]
  refine call_giv (way_giv b) ?_
  simp -dsimp -implicitDefEqProofs (disch := first | omega | (simp only [List.length_append, List.length_cons, List.length_nil, List.length_take, List.length_drop]; omega)) only [ha, hb, ↓aPre, aPost, oneW, allOne, retV, retVA, ↓reduceIte, reduceCtorEq, Nat.reduceAdd, Nat.reduceSub, Nat.reduceMul, Nat.reduceLT, Nat.reduceLeDiff, Nat.reduceEqDiff, Nat.reduceDiv, Nat.reduceMod, Nat.reducePow, Int.reduceAdd, Int.reduceSub, Int.reduceMul, Int.reduceLT, Int.reduceLE, Int.reduceEq, Int.reduceNe, Int.reducePow, Int.reduceToNat, Int.reduceNeg]
  have e6 : ([.c (.int .i64 0), .c (.int .i64 1), .c (.int .i64 2), .c (.int .i64 3), .c (.int .i64 4), .c (.int .i64 5)] : List D) = li .i64 g6 := rfl
  have hu := fun m hm => up_t m 3 2 g6 hm (by decide) (by decide) (by decide) rfl
  have l3 := upW_le (k := a) (W := 3) (H := 2) (n := 3) (by decide) (by decide)
  have hsm := small (k := a) (W := 3) (H := 2) (by decide)
  have hul := upL_len a 3 2 g6
  refine call_giv (hu a ha) ?_
  simp -dsimp -implicitDefEqProofs (disch := first | omega | (simp only [List.length_append, List.length_cons, List.length_nil, List.length_take, List.length_drop]; omega)) only [gD, ↓aPre, aPost, oneW, allOne, retV, retVA, ↓reduceIte, reduceCtorEq, Nat.reduceAdd, Nat.reduceSub, Nat.reduceMul, Nat.reduceLT, Nat.reduceLeDiff, Nat.reduceEqDiff, Nat.reduceDiv, Nat.reduceMod, Nat.reducePow, Int.reduceAdd, Int.reduceSub, Int.reduceMul, Int.reduceLT, Int.reduceLE, Int.reduceEq, Int.reduceNe, Int.reducePow, Int.reduceToNat, Int.reduceNeg]
  refine call_giv (up_t b (upW a 3 2) (upH a 3 2) (upL a 3 2 g6) hb (by omega) (by omega) hsm hul) ?_
  have hxl := upL_len b (upW a 3 2) (upH a 3 2) (upL a 3 2 g6)
  have hxs := small (k := b) hsm
  have hX1 : upW b (upW a 3 2) (upH a 3 2) = X.1 := by rw [hXe]; rfl
  have hX2 : upH b (upW a 3 2) (upH a 3 2) = X.2.1 := by rw [hXe]; rfl
  have hX3 : upL b (upW a 3 2) (upH a 3 2) (upL a 3 2 g6) = X.2.2 := by rw [hXe]; rfl
  rw [hX1, hX2, hX3] at hxl
  rw [hX1, hX2] at hxs
  rw [hX1, hX2, hX3]
  simp -dsimp -implicitDefEqProofs (disch := first | omega | (simp only [List.length_append, List.length_cons, List.length_nil, List.length_take, List.length_drop]; omega)) only [gD, hX1, hX2, hX3, ↓aPre, aPost, oneW, allOne, retV, retVA, ↓reduceIte, reduceCtorEq, Nat.reduceAdd, Nat.reduceSub, Nat.reduceMul, Nat.reduceLT, Nat.reduceLeDiff, Nat.reduceEqDiff, Nat.reduceDiv, Nat.reduceMod, Nat.reducePow, Int.reduceAdd, Int.reduceSub, Int.reduceMul, Int.reduceLT, Int.reduceLE, Int.reduceEq, Int.reduceNe, Int.reducePow, Int.reduceToNat, Int.reduceNeg]
  refine loop_of (fun s => ∃ (m : Int), 1 ≤ m ∧ m ≤ 9 ∧ (∀ n, 1 ≤ n → n < m → Y6 n ≠ X) ∧ s.tm 9 = .d (.c (.int .i64 m)) ∧ s.tm 6 = .ptr 6 0 ∧ s.hp 6 = some (.box [.d (.c (.int .i64 3)), .d (.c (.int .i64 2)), .d (.lst 1 (li .i64 g6))]) ∧ s.tm 7 = .ptr 7 0 ∧ s.hp 7 = some (.box [.d (.c (.int .i64 X.1)), .d (.c (.int .i64 X.2.1)), .d (.lst 1 (li .i64 X.2.2))])) (fun s => 9 - (avN (s.tm 9)).toNat) ?_ ?_
  · refine ⟨1, by omega, by omega, fun n h1 h2 => by omega, ?_⟩
    simp -dsimp -implicitDefEqProofs (disch := first | omega | (simp only [List.length_append, List.length_cons, List.length_nil, List.length_take, List.length_drop]; omega)) only [e6, ↓aPre, aPost, oneW, allOne, retV, retVA, ↓reduceIte, reduceCtorEq, Nat.reduceAdd, Nat.reduceSub, Nat.reduceMul, Nat.reduceLT, Nat.reduceLeDiff, Nat.reduceEqDiff, Nat.reduceDiv, Nat.reduceMod, Nat.reducePow, Int.reduceAdd, Int.reduceSub, Int.reduceMul, Int.reduceLT, Int.reduceLE, Int.reduceEq, Int.reduceNe, Int.reducePow, Int.reduceToNat, Int.reduceNeg]
  rintro s ⟨m, h1, h9, hne, hs⟩
  by_cases hlt : m ≤ 8
  · have hm : wayP m := ⟨h1, hlt⟩
    simp -dsimp -implicitDefEqProofs (disch := first | omega | (simp only [List.length_append, List.length_cons, List.length_nil, List.length_take, List.length_drop]; omega)) only [hs, ↓aPre, aPost, oneW, allOne, retV, retVA, ↓reduceIte, reduceCtorEq, Nat.reduceAdd, Nat.reduceSub, Nat.reduceMul, Nat.reduceLT, Nat.reduceLeDiff, Nat.reduceEqDiff, Nat.reduceDiv, Nat.reduceMod, Nat.reducePow, Int.reduceAdd, Int.reduceSub, Int.reduceMul, Int.reduceLT, Int.reduceLE, Int.reduceEq, Int.reduceNe, Int.reducePow, Int.reduceToNat, Int.reduceNeg]
    refine call_giv (hu m hm) ?_
    have hml := upL_len m 3 2 g6
    have hms := small (k := m) (W := 3) (H := 2) (by decide)
    simp -dsimp -implicitDefEqProofs (disch := first | omega | (simp only [List.length_append, List.length_cons, List.length_nil, List.length_take, List.length_drop]; omega)) only [hs, gD, ↓aPre, aPost, oneW, allOne, retV, retVA, ↓reduceIte, reduceCtorEq, Nat.reduceAdd, Nat.reduceSub, Nat.reduceMul, Nat.reduceLT, Nat.reduceLeDiff, Nat.reduceEqDiff, Nat.reduceDiv, Nat.reduceMod, Nat.reducePow, Int.reduceAdd, Int.reduceSub, Int.reduceMul, Int.reduceLT, Int.reduceLE, Int.reduceEq, Int.reduceNe, Int.reducePow, Int.reduceToNat, Int.reduceNeg]
    refine call_giv (osame_giv X.1 X.2.1 X.2.2 (upW m 3 2) (upH m 3 2) (upL m 3 2 g6) (by omega) (by omega) (fun e1 e2 => by rw [hxl, hml, Int.ofNat.inj e1, Int.ofNat.inj e2])) ?_
    by_cases hq : Y6 m = X
    · have hal : alike X.1 X.2.1 X.2.2 (upW m 3 2) (upH m 3 2) (upL m 3 2 g6) := by rw [← hq]; exact ⟨rfl, rfl, rfl⟩
      have hmt : m = thn a b := Y6_ne hm hT (by rw [hq, hXe, hX])
      simp -dsimp -implicitDefEqProofs (disch := first | omega | (simp only [List.length_append, List.length_cons, List.length_nil, List.length_take, List.length_drop]; omega)) only [hs, hal, ↓aPre, aPost, oneW, allOne, retV, retVA, ↓reduceIte, reduceCtorEq, Nat.reduceAdd, Nat.reduceSub, Nat.reduceMul, Nat.reduceLT, Nat.reduceLeDiff, Nat.reduceEqDiff, Nat.reduceDiv, Nat.reduceMod, Nat.reducePow, Int.reduceAdd, Int.reduceSub, Int.reduceMul, Int.reduceLT, Int.reduceLE, Int.reduceEq, Int.reduceNe, Int.reducePow, Int.reduceToNat, Int.reduceNeg]
      rw [hmt]
      exact post_eq rfl
    · have hal : ¬ alike X.1 X.2.1 X.2.2 (upW m 3 2) (upH m 3 2) (upL m 3 2 g6) := fun h => hq (by
        obtain ⟨h1, h2, h3⟩ := h
        rw [Y6, ← h3, ← Int.ofNat.inj h1, ← Int.ofNat.inj h2])
      simp -dsimp -implicitDefEqProofs (disch := first | omega | (simp only [List.length_append, List.length_cons, List.length_nil, List.length_take, List.length_drop]; omega)) only [hs, hal, ↓aPre, aPost, oneW, allOne, retV, retVA, ↓reduceIte, reduceCtorEq, Nat.reduceAdd, Nat.reduceSub, Nat.reduceMul, Nat.reduceLT, Nat.reduceLeDiff, Nat.reduceEqDiff, Nat.reduceDiv, Nat.reduceMod, Nat.reducePow, Int.reduceAdd, Int.reduceSub, Int.reduceMul, Int.reduceLT, Int.reduceLE, Int.reduceEq, Int.reduceNe, Int.reducePow, Int.reduceToNat, Int.reduceNeg]
      refine round_of ⟨m + 1, by omega, by omega, fun n hn1 hn2 => ?_, ?_⟩ ?_
      · by_cases hnm : n = m
        · rw [hnm]; exact hq
        · exact hne n hn1 (by omega)
      · simp -dsimp -implicitDefEqProofs (disch := first | omega | (simp only [List.length_append, List.length_cons, List.length_nil, List.length_take, List.length_drop]; omega)) only [hs, ↓aPre, aPost, oneW, allOne, retV, retVA, ↓reduceIte, reduceCtorEq, Nat.reduceAdd, Nat.reduceSub, Nat.reduceMul, Nat.reduceLT, Nat.reduceLeDiff, Nat.reduceEqDiff, Nat.reduceDiv, Nat.reduceMod, Nat.reducePow, Int.reduceAdd, Int.reduceSub, Int.reduceMul, Int.reduceLT, Int.reduceLE, Int.reduceEq, Int.reduceNe, Int.reducePow, Int.reduceToNat, Int.reduceNeg]
      · simp -dsimp -implicitDefEqProofs (disch := first | omega | (simp only [List.length_append, List.length_cons, List.length_nil, List.length_take, List.length_drop]; omega)) only [hs, ↓aPre, aPost, oneW, allOne, retV, retVA, ↓reduceIte, reduceCtorEq, Nat.reduceAdd, Nat.reduceSub, Nat.reduceMul, Nat.reduceLT, Nat.reduceLeDiff, Nat.reduceEqDiff, Nat.reduceDiv, Nat.reduceMod, Nat.reducePow, Int.reduceAdd, Int.reduceSub, Int.reduceMul, Int.reduceLT, Int.reduceLE, Int.reduceEq, Int.reduceNe, Int.reducePow, Int.reduceToNat, Int.reduceNeg]
        omega
  · exact (hne _ hT.1 (by have := hT.2; omega) (by rw [hXe, hX])).elim
end Go.Proofs.Ytdpkmfjjhpfdbaa
