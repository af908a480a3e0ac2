/- The lengths of runs, and the chapter's example. No condition but what each says. -/
import Derived.Test.YtmocmdcnkmgaiaaWRuns
import Derived.Test.YtmocmdcnkmgaiaaWRuns2
import Derived.Test.YtmocmdcnkmgaiaaWRunsOf
set_option linter.unusedSimpArgs false
set_option linter.unusedVariables false
namespace Go.Proofs.Ytmocmdcnkmgaiaa
open Go.Eng Go.RowKit
theorem rightW_bound (w : Int) : ∀ (l : List Int) (y : Int), rightW w l y = true → ∀ z ∈ l, y < z ∧ z < w
  | [], _, _, z, hz => by cases hz
  | x :: l, y, h, z, hz => by
    simp only [rightW, Bool.and_eq_true, decide_eq_true_eq] at h
    rcases List.mem_cons.1 hz with rfl | hz
    · exact h.1
    · have := rightW_bound w l x h.2 z hz
      omega
def wasK (m : List Int) : Nat → Int
  | 0 => 0
  | k + 1 => m.getD k 0
def lenK (m : List Int) : Nat → List Int
  | 0 => []
  | k + 1 => lenK m k ++ [m.getD k 0 - wasK m k]
theorem lenK_len (m : List Int) : ∀ k, (lenK m k).length = k
  | 0 => rfl
  | k + 1 => by rw [lenK, List.length_append, lenK_len m k]; rfl
theorem get_bound {l : List Int} {a b : Int} (h : ∀ z ∈ l, a ≤ z ∧ z ≤ b) (h0 : a ≤ 0 ∧ 0 ≤ b) (k : Nat) : a ≤ l.getD k 0 ∧ l.getD k 0 ≤ b := by
  by_cases hi : k < l.length
  · simp only [List.getD, List.getElem?_eq_getElem hi, Option.getD_some]
    exact h _ (List.getElem_mem _)
  · simpa [List.getD, List.getElem?_eq_none (Nat.le_of_not_lt hi)] using h0
theorem was_bound {m : List Int} (h : ∀ z ∈ m, 0 ≤ z ∧ z ≤ 32768) : ∀ k, 0 ≤ wasK m k ∧ wasK m k ≤ 32768
  | 0 => by simp [wasK]
  | k + 1 => by rw [wasK]; exact get_bound h (by omega) k
def bad (l : List Int) (w : Int) : Prop := w < 0 ∨ 32768 < w ∨ rightW w l (-1) = false
instance (l : List Int) (w : Int) : Decidable (bad l w) := by unfold bad; infer_instance
def lengthsD (l : List Int) (w : Int) : List D := if bad l w then [.lst 1 [], .c (.int .i64 1)] else [.lst 1 (li .i64 (lenK (l ++ [w]) (l.length + 1))), .c (.int .i64 0)]
theorem lengths_giv (l : List Int) (w : Int) (hl : (l.length + 1) * 8 ≤ 140737488355328) : Giv Try.prog 16 [.lst 1 (li .i64 l), .c (.int .i64 w)] (retV (lengthsD l w)) := by
  refine Giv.of mixed c16 (Nat.le_of_ble_eq_true rfl) ?_
  by_cases h1 : w < 0
  · simp -dsimp -implicitDefEqProofs (disch := first | omega | (simp only [List.length_append, List.length_cons, List.length_nil, List.length_take, List.length_drop]; omega)) only [a16, ↓aPre, aPost, oneW, allOne, retV, retVA, ↓reduceIte, reduceCtorEq, Nat.reduceAdd, Nat.reduceSub, Nat.reduceMul, Nat.reduceLT, Nat.reduceLeDiff, Nat.reduceEqDiff, Nat.reduceDiv, Nat.reduceMod, Nat.reducePow, Int.reduceAdd, Int.reduceSub, Int.reduceMul, Int.reduceLT, Int.reduceLE, Int.reduceEq, Int.reduceNe, Int.reducePow, Int.reduceToNat, Int.reduceNeg]
    rw [lengthsD, if_pos (.inl h1)]
    exact post_nil (leD_refl _)
  by_cases h2 : 32768 < w
  · simp -dsimp -implicitDefEqProofs (disch := first | omega | (simp only [List.length_append, List.length_cons, List.length_nil, List.length_take, List.length_drop]; omega)) only [a16, ↓aPre, aPost, oneW, allOne, retV, retVA, ↓reduceIte, reduceCtorEq, Nat.reduceAdd, Nat.reduceSub, Nat.reduceMul, Nat.reduceLT, Nat.reduceLeDiff, Nat.reduceEqDiff, Nat.reduceDiv, Nat.reduceMod, Nat.reducePow, Int.reduceAdd, Int.reduceSub, Int.reduceMul, Int.reduceLT, Int.reduceLE, Int.reduceEq, Int.reduceNe, Int.reducePow, Int.reduceToNat, Int.reduceNeg]
    rw [lengthsD, if_pos (.inr (.inl h2))]
    exact post_nil (leD_refl _)
  simp -dsimp -implicitDefEqProofs (disch := first | omega | (simp only [List.length_append, List.length_cons, List.length_nil, List.length_take, List.length_drop]; omega)) only [a16, ↓aPre, aPost, oneW, allOne, retV, retVA, ↓reduceIte, reduceCtorEq, Nat.reduceAdd, Nat.reduceSub, Nat.reduceMul, Nat.reduceLT, Nat.reduceLeDiff, Nat.reduceEqDiff, Nat.reduceDiv, Nat.reduceMod, Nat.reducePow, Int.reduceAdd, Int.reduceSub, Int.reduceMul, Int.reduceLT, Int.reduceLE, Int.reduceEq, Int.reduceNe, Int.reducePow, Int.reduceToNat, Int.reduceNeg]
  refine call_giv (right_giv l w (by omega)) ?_
  cases h3 : rightW w l (-1) with
  | false =>
    simp -dsimp -implicitDefEqProofs (disch := first | omega | (simp only [List.length_append, List.length_cons, List.length_nil, List.length_take, List.length_drop]; omega)) only [↓aPre, aPost, oneW, allOne, retV, retVA, ↓reduceIte, reduceCtorEq, Nat.reduceAdd, Nat.reduceSub, Nat.reduceMul, Nat.reduceLT, Nat.reduceLeDiff, Nat.reduceEqDiff, Nat.reduceDiv, Nat.reduceMod, Nat.reducePow, Int.reduceAdd, Int.reduceSub, Int.reduceMul, Int.reduceLT, Int.reduceLE, Int.reduceEq, Int.reduceNe, Int.reducePow, Int.reduceToNat, Int.reduceNeg]
    rw [lengthsD, if_pos (.inr (.inr h3))]
    exact post_nil (leD_refl _)
  | true =>
    have hbd : ∀ z ∈ l ++ [w], 0 ≤ z ∧ z ≤ 32768 := by
      intro z hz
      rcases List.mem_append.1 hz with hz | hz
      · have := rightW_bound w l _ h3 z hz; omega
      · have := List.mem_singleton.1 hz; omega
    have hm : (l ++ [w]).length = l.length + 1 := by simp
    rw [lengthsD, if_neg (by rintro (h | h | h) <;> first | omega | (rw [h3] at h; cases h))]
    simp -dsimp -implicitDefEqProofs (disch := first | omega | (simp only [List.length_append, List.length_cons, List.length_nil, List.length_take, List.length_drop]; omega)) only [↓aPre, aPost, oneW, allOne, retV, retVA, ↓reduceIte, reduceCtorEq, Nat.reduceAdd, Nat.reduceSub, Nat.reduceMul, Nat.reduceLT, Nat.reduceLeDiff, Nat.reduceEqDiff, Nat.reduceDiv, Nat.reduceMod, Nat.reducePow, Int.reduceAdd, Int.reduceSub, Int.reduceMul, Int.reduceLT, Int.reduceLE, Int.reduceEq, Int.reduceNe, Int.reducePow, Int.reduceToNat, Int.reduceNeg]
    refine loop_nil 6 100 1 (fun s => ∃ (k : Nat), k ≤ l.length + 1 ∧ s.tm 29 = .d (.c (.int .i64 k)) ∧ s.tm 28 = .d (.c (.int .i64 (l.length + 1 : Nat))) ∧ s.tm 27 = .sl 22 1 0 (l.length + 1) ∧ s.hp 22 = some (.row 1 (li .i64 (l ++ [w]))) ∧ s.tm 6 = .sl 100 1 0 k ∧ s.hp 100 = some (.row 1 (li .i64 (lenK (l ++ [w]) k))) ∧ s.tm 7 = .d (.c (.int .i64 (wasK (l ++ [w]) k)))) (fun s => l.length + 1 - (avN (s.tm 29)).toNat) ?_ (by decide) ?_ ?_
    · simp -dsimp -implicitDefEqProofs (disch := first | omega | (simp only [List.length_append, List.length_cons, List.length_nil, List.length_take, List.length_drop]; omega)) only [↓aPre, aPost, oneW, allOne, retV, retVA, ↓reduceIte, reduceCtorEq, Nat.reduceAdd, Nat.reduceSub, Nat.reduceMul, Nat.reduceLT, Nat.reduceLeDiff, Nat.reduceEqDiff, Nat.reduceDiv, Nat.reduceMod, Nat.reducePow, Int.reduceAdd, Int.reduceSub, Int.reduceMul, Int.reduceLT, Int.reduceLE, Int.reduceEq, Int.reduceNe, Int.reducePow, Int.reduceToNat, Int.reduceNeg]
    · refine ⟨0, Nat.zero_le _, ?_⟩
      simp -dsimp -implicitDefEqProofs (disch := first | omega | (simp only [List.length_append, List.length_cons, List.length_nil, List.length_take, List.length_drop]; omega)) only [lenK, wasK, Int.natCast_zero, ↓aPre, aPost, oneW, allOne, retV, retVA, ↓reduceIte, reduceCtorEq, Nat.reduceAdd, Nat.reduceSub, Nat.reduceMul, Nat.reduceLT, Nat.reduceLeDiff, Nat.reduceEqDiff, Nat.reduceDiv, Nat.reduceMod, Nat.reducePow, Int.reduceAdd, Int.reduceSub, Int.reduceMul, Int.reduceLT, Int.reduceLE, Int.reduceEq, Int.reduceNe, Int.reducePow, Int.reduceToNat, Int.reduceNeg]
    rintro s ⟨k, hk, hs⟩
    have hb1 := get_bound hbd (by omega) k
    have hb2 := was_bound hbd k
    have e := lenK_len (l ++ [w]) k
    by_cases hlt : k < l.length + 1
    · simp -dsimp -implicitDefEqProofs (disch := first | omega | (simp only [List.length_append, List.length_cons, List.length_nil, List.length_take, List.length_drop]; omega)) only [hs, hm, e, ↓aPre, aPost, oneW, allOne, retV, retVA, ↓reduceIte, reduceCtorEq, Nat.reduceAdd, Nat.reduceSub, Nat.reduceMul, Nat.reduceLT, Nat.reduceLeDiff, Nat.reduceEqDiff, Nat.reduceDiv, Nat.reduceMod, Nat.reducePow, Int.reduceAdd, Int.reduceSub, Int.reduceMul, Int.reduceLT, Int.reduceLE, Int.reduceEq, Int.reduceNe, Int.reducePow, Int.reduceToNat, Int.reduceNeg]
      refine round_of ⟨k + 1, by omega, ?_⟩ ?_
      · simp -dsimp -implicitDefEqProofs (disch := first | omega | (simp only [List.length_append, List.length_cons, List.length_nil, List.length_take, List.length_drop]; omega)) only [hs, e, lenK, wasK, ↓aPre, aPost, oneW, allOne, retV, retVA, ↓reduceIte, reduceCtorEq, Nat.reduceAdd, Nat.reduceSub, Nat.reduceMul, Nat.reduceLT, Nat.reduceLeDiff, Nat.reduceEqDiff, Nat.reduceDiv, Nat.reduceMod, Nat.reducePow, Int.reduceAdd, Int.reduceSub, Int.reduceMul, Int.reduceLT, Int.reduceLE, Int.reduceEq, Int.reduceNe, Int.reducePow, Int.reduceToNat, Int.reduceNeg]
      · simp -dsimp -implicitDefEqProofs (disch := first | omega | (simp only [List.length_append, List.length_cons, List.length_nil, List.length_take, List.length_drop]; omega)) only [hs, ↓aPre, aPost, oneW, allOne, retV, retVA, ↓reduceIte, reduceCtorEq, Nat.reduceAdd, Nat.reduceSub, Nat.reduceMul, Nat.reduceLT, Nat.reduceLeDiff, Nat.reduceEqDiff, Nat.reduceDiv, Nat.reduceMod, Nat.reducePow, Int.reduceAdd, Int.reduceSub, Int.reduceMul, Int.reduceLT, Int.reduceLE, Int.reduceEq, Int.reduceNe, Int.reducePow, Int.reduceToNat, Int.reduceNeg]
        omega
    · simp -dsimp -implicitDefEqProofs (disch := first | omega | (simp only [List.length_append, List.length_cons, List.length_nil, List.length_take, List.length_drop]; omega)) only [hs, e, ↓aPre, aPost, oneW, allOne, retV, retVA, ↓reduceIte, reduceCtorEq, Nat.reduceAdd, Nat.reduceSub, Nat.reduceMul, Nat.reduceLT, Nat.reduceLeDiff, Nat.reduceEqDiff, Nat.reduceDiv, Nat.reduceMod, Nat.reducePow, Int.reduceAdd, Int.reduceSub, Int.reduceMul, Int.reduceLT, Int.reduceLE, Int.reduceEq, Int.reduceNe, Int.reducePow, Int.reduceToNat, Int.reduceNeg]
      obtain rfl : k = l.length + 1 := by omega
      exact post_eq rfl
theorem lives_giv : Giv Try.prog 9 [] (retV [.c (.bool true)]) := by
  refine Giv.of mixed c9 (Nat.le_of_ble_eq_true rfl) ?_
  simp -dsimp -implicitDefEqProofs (disch := first | omega | (simp only [List.length_append, List.length_cons, List.length_nil, List.length_take, List.length_drop]; omega)) only [a9, ↓aPre, aPost, oneW, allOne, retV, retVA, ↓reduceIte, reduceCtorEq, Nat.reduceAdd, Nat.reduceSub, Nat.reduceMul, Nat.reduceLT, Nat.reduceLeDiff, Nat.reduceEqDiff, Nat.reduceDiv, Nat.reduceMod, Nat.reducePow, Int.reduceAdd, Int.reduceSub, Int.reduceMul, Int.reduceLT, Int.reduceLE, Int.reduceEq, Int.reduceNe, Int.reducePow, Int.reduceToNat, Int.reduceNeg]
  refine call_giv (of_giv [49] 8 (by decide) (fun z hz => by simp at hz; omega)) ?_
  rw [show ofD [49] 8 = [.lst 1 (li .i64 [2, 4, 7]), .c (.int .i64 0)] from by kernel_rfl]
  simp -dsimp -implicitDefEqProofs (disch := first | omega | (simp only [List.length_append, List.length_cons, List.length_nil, List.length_take, List.length_drop]; omega)) only [↓aPre, aPost, oneW, allOne, retV, retVA, ↓reduceIte, reduceCtorEq, Nat.reduceAdd, Nat.reduceSub, Nat.reduceMul, Nat.reduceLT, Nat.reduceLeDiff, Nat.reduceEqDiff, Nat.reduceDiv, Nat.reduceMod, Nat.reducePow, Int.reduceAdd, Int.reduceSub, Int.reduceMul, Int.reduceLT, Int.reduceLE, Int.reduceEq, Int.reduceNe, Int.reducePow, Int.reduceToNat, Int.reduceNeg]
  refine call_giv (lengths_giv [2, 4, 7] 8 (by decide)) ?_
  rw [show lengthsD [2, 4, 7] 8 = [.lst 1 (li .i64 [2, 2, 3, 1]), .c (.int .i64 0)] from by kernel_rfl]
  simp -dsimp -implicitDefEqProofs (disch := first | omega | (simp only [List.length_append, List.length_cons, List.length_nil, List.length_take, List.length_drop]; omega)) only [↓aPre, aPost, oneW, allOne, retV, retVA, ↓reduceIte, reduceCtorEq, Nat.reduceAdd, Nat.reduceSub, Nat.reduceMul, Nat.reduceLT, Nat.reduceLeDiff, Nat.reduceEqDiff, Nat.reduceDiv, Nat.reduceMod, Nat.reducePow, Int.reduceAdd, Int.reduceSub, Int.reduceMul, Int.reduceLT, Int.reduceLE, Int.reduceEq, Int.reduceNe, Int.reducePow, Int.reduceToNat, Int.reduceNeg]
  exact post_eq rfl
end Go.Proofs.Ytmocmdcnkmgaiaa
