/- The next place, and one place more or less: the law's walk and its plain law. No further condition. -/
import Derived.Test.YtmocmdcnkmgaiaaWNext
import Derived.Test.YtmocmdcnkmgaiaaLToggles
set_option linter.unusedSimpArgs false
set_option linter.unusedVariables false
namespace Go.Proofs.Ytmocmdcnkmgaiaa
open Go.Eng Go.RowKit
theorem rightW_lt (w : Int) : ∀ (l : List Int) (y : Int), rightW w l y = true → ∀ j, j + 1 < l.length → l.getD j 0 < l.getD (j + 1) 0
  | [], _, _, j, hj => by simp at hj
  | [x], _, _, j, hj => by simp at hj
  | x :: x' :: l, y, h, j, hj => by
    simp only [rightW, Bool.and_eq_true, decide_eq_true_eq] at h
    cases j with
    | zero => exact h.2.1.1
    | succ j =>
      have := rightW_lt w (x' :: l) x (by simp only [rightW, Bool.and_eq_true, decide_eq_true_eq]; exact h.2) j (by simpa using hj)
      simpa using this
theorem same_t (a : List Int) (h : a.length ≤ 140737488355328) : Giv Try.prog 12 [.lst 1 (li .i64 a), .lst 1 (li .i64 a)] (retV [.c (.bool true)]) := by
  have := same_giv a a h h
  rwa [decide_eq_true rfl] at this
theorem runsNext_giv (y0 : List Int) (h0 : (y0.length * 8 ≤ 140737488351232 ∧ ∀ z ∈ y0, -9223372036854775808 ≤ z ∧ z ≤ 9223372036854775807)) (y1 : Int) (h1 : (-9223372036854775808 ≤ y1 ∧ y1 ≤ 9223372036854775807)) (y2 : Int) (h2 : (-9223372036854775808 ≤ y2 ∧ y2 ≤ 9223372036854775807)) : Giv Try.prog 7 [.lst 1 (li .i64 y0), .c (.int .i64 y1), .c (.int .i64 y2)] (.d (.c (.bool true))) := by
  refine Giv.of (out := [.c (.bool true)]) mixed c7 (Nat.le_of_ble_eq_true rfl) ?_
  simp -dsimp -implicitDefEqProofs (disch := first | omega | (simp only [List.length_append, List.length_cons, List.length_nil, List.length_take, List.length_drop]; omega)) only [a7, ↓aPre, aPost, oneW, allOne, retV, retVA, ↓reduceIte, reduceCtorEq, Nat.reduceAdd, Nat.reduceSub, Nat.reduceMul, Nat.reduceLT, Nat.reduceLeDiff, Nat.reduceEqDiff, Nat.reduceDiv, Nat.reduceMod, Nat.reducePow, Int.reduceAdd, Int.reduceSub, Int.reduceMul, Int.reduceLT, Int.reduceLE, Int.reduceEq, Int.reduceNe, Int.reducePow, Int.reduceToNat, Int.reduceNeg]
  refine call_giv lives_giv ?_
  by_cases hl : 100 < y0.length
  · simp -dsimp -implicitDefEqProofs (disch := first | omega | (simp only [List.length_append, List.length_cons, List.length_nil, List.length_take, List.length_drop]; omega)) only [↓aPre, aPost, oneW, allOne, retV, retVA, ↓reduceIte, reduceCtorEq, Nat.reduceAdd, Nat.reduceSub, Nat.reduceMul, Nat.reduceLT, Nat.reduceLeDiff, Nat.reduceEqDiff, Nat.reduceDiv, Nat.reduceMod, Nat.reducePow, Int.reduceAdd, Int.reduceSub, Int.reduceMul, Int.reduceLT, Int.reduceLE, Int.reduceEq, Int.reduceNe, Int.reducePow, Int.reduceToNat, Int.reduceNeg]
    refine call_giv lives_giv ?_
    simp -dsimp -implicitDefEqProofs (disch := first | omega | (simp only [List.length_append, List.length_cons, List.length_nil, List.length_take, List.length_drop]; omega)) only [↓aPre, aPost, oneW, allOne, retV, retVA, ↓reduceIte, reduceCtorEq, Nat.reduceAdd, Nat.reduceSub, Nat.reduceMul, Nat.reduceLT, Nat.reduceLeDiff, Nat.reduceEqDiff, Nat.reduceDiv, Nat.reduceMod, Nat.reducePow, Int.reduceAdd, Int.reduceSub, Int.reduceMul, Int.reduceLT, Int.reduceLE, Int.reduceEq, Int.reduceNe, Int.reducePow, Int.reduceToNat, Int.reduceNeg]
    exact post_eq rfl
  simp -dsimp -implicitDefEqProofs (disch := first | omega | (simp only [List.length_append, List.length_cons, List.length_nil, List.length_take, List.length_drop]; omega)) only [↓aPre, aPost, oneW, allOne, retV, retVA, ↓reduceIte, reduceCtorEq, Nat.reduceAdd, Nat.reduceSub, Nat.reduceMul, Nat.reduceLT, Nat.reduceLeDiff, Nat.reduceEqDiff, Nat.reduceDiv, Nat.reduceMod, Nat.reducePow, Int.reduceAdd, Int.reduceSub, Int.reduceMul, Int.reduceLT, Int.reduceLE, Int.reduceEq, Int.reduceNe, Int.reducePow, Int.reduceToNat, Int.reduceNeg]
  refine call_giv (rright_giv y0 y2 (by omega)) ?_
  cases hr : rightW y2 y0 (-1) with
  | false =>
    simp -dsimp -implicitDefEqProofs (disch := first | omega | (simp only [List.length_append, List.length_cons, List.length_nil, List.length_take, List.length_drop]; omega)) only [↓aPre, aPost, oneW, allOne, retV, retVA, ↓reduceIte, reduceCtorEq, Nat.reduceAdd, Nat.reduceSub, Nat.reduceMul, Nat.reduceLT, Nat.reduceLeDiff, Nat.reduceEqDiff, Nat.reduceDiv, Nat.reduceMod, Nat.reducePow, Int.reduceAdd, Int.reduceSub, Int.reduceMul, Int.reduceLT, Int.reduceLE, Int.reduceEq, Int.reduceNe, Int.reducePow, Int.reduceToNat, Int.reduceNeg]
    refine call_giv lives_giv ?_
    simp -dsimp -implicitDefEqProofs (disch := first | omega | (simp only [List.length_append, List.length_cons, List.length_nil, List.length_take, List.length_drop]; omega)) only [↓aPre, aPost, oneW, allOne, retV, retVA, ↓reduceIte, reduceCtorEq, Nat.reduceAdd, Nat.reduceSub, Nat.reduceMul, Nat.reduceLT, Nat.reduceLeDiff, Nat.reduceEqDiff, Nat.reduceDiv, Nat.reduceMod, Nat.reducePow, Int.reduceAdd, Int.reduceSub, Int.reduceMul, Int.reduceLT, Int.reduceLE, Int.reduceEq, Int.reduceNe, Int.reducePow, Int.reduceToNat, Int.reduceNeg]
    exact post_eq rfl
  | true =>
    simp -dsimp -implicitDefEqProofs (disch := first | omega | (simp only [List.length_append, List.length_cons, List.length_nil, List.length_take, List.length_drop]; omega)) only [↓aPre, aPost, oneW, allOne, retV, retVA, ↓reduceIte, reduceCtorEq, Nat.reduceAdd, Nat.reduceSub, Nat.reduceMul, Nat.reduceLT, Nat.reduceLeDiff, Nat.reduceEqDiff, Nat.reduceDiv, Nat.reduceMod, Nat.reducePow, Int.reduceAdd, Int.reduceSub, Int.reduceMul, Int.reduceLT, Int.reduceLE, Int.reduceEq, Int.reduceNe, Int.reducePow, Int.reduceToNat, Int.reduceNeg]
    refine loop_of (fun s => ∃ (k : Nat), k ≤ 2 ∧ s.tm 31 = .d (.c (.int .i64 k)) ∧ s.tm 29 = .d (.lst 1 [.c (.bool false), .c (.bool true)]) ∧ s.tm 30 = .d (.c (.int .i64 2)) ∧ s.tm 0 = .d (.lst 1 (li .i64 y0)) ∧ s.tm 1 = .d (.c (.int .i64 y1)) ∧ s.tm 2 = .d (.c (.int .i64 y2))) (fun s => 2 - (avN (s.tm 31)).toNat) ?_ ?_
    · refine ⟨0, Nat.zero_le _, ?_⟩
      simp -dsimp -implicitDefEqProofs (disch := first | omega | (simp only [List.length_append, List.length_cons, List.length_nil, List.length_take, List.length_drop]; omega)) only [Int.natCast_zero, ↓aPre, aPost, oneW, allOne, retV, retVA, ↓reduceIte, reduceCtorEq, Nat.reduceAdd, Nat.reduceSub, Nat.reduceMul, Nat.reduceLT, Nat.reduceLeDiff, Nat.reduceEqDiff, Nat.reduceDiv, Nat.reduceMod, Nat.reducePow, Int.reduceAdd, Int.reduceSub, Int.reduceMul, Int.reduceLT, Int.reduceLE, Int.reduceEq, Int.reduceNe, Int.reducePow, Int.reduceToNat, Int.reduceNeg]
    rintro s ⟨k, hk, hs⟩
    by_cases hlt : k < 2
    · obtain ⟨b, hb⟩ : ∃ b, [D.c (.bool false), D.c (.bool true)].getD k default = .c (.bool b) := by
        match k, hlt with
        | 0, _ => exact ⟨false, rfl⟩
        | 1, _ => exact ⟨true, rfl⟩
      simp -dsimp -implicitDefEqProofs (disch := first | omega | (simp only [List.length_append, List.length_cons, List.length_nil, List.length_take, List.length_drop]; omega)) only [hs, hb, ↓aPre, aPost, oneW, allOne, retV, retVA, ↓reduceIte, reduceCtorEq, Nat.reduceAdd, Nat.reduceSub, Nat.reduceMul, Nat.reduceLT, Nat.reduceLeDiff, Nat.reduceEqDiff, Nat.reduceDiv, Nat.reduceMod, Nat.reducePow, Int.reduceAdd, Int.reduceSub, Int.reduceMul, Int.reduceLT, Int.reduceLE, Int.reduceEq, Int.reduceNe, Int.reducePow, Int.reduceToNat, Int.reduceNeg]
      refine call_giv (next_giv y0 y1 b y2 (by omega)) ?_
      simp -dsimp -implicitDefEqProofs (disch := first | omega | (simp only [List.length_append, List.length_cons, List.length_nil, List.length_take, List.length_drop]; omega)) only [hs, nextD, ↓aPre, aPost, oneW, allOne, retV, retVA, ↓reduceIte, reduceCtorEq, Nat.reduceAdd, Nat.reduceSub, Nat.reduceMul, Nat.reduceLT, Nat.reduceLeDiff, Nat.reduceEqDiff, Nat.reduceDiv, Nat.reduceMod, Nat.reducePow, Int.reduceAdd, Int.reduceSub, Int.reduceMul, Int.reduceLT, Int.reduceLE, Int.reduceEq, Int.reduceNe, Int.reducePow, Int.reduceToNat, Int.reduceNeg]
      refine call_giv (rnext_giv y0 y1 b y2 (by omega)) ?_
      simp -dsimp -implicitDefEqProofs (disch := first | omega | (simp only [List.length_append, List.length_cons, List.length_nil, List.length_take, List.length_drop]; omega)) only [hs, nextD, ↓aPre, aPost, oneW, allOne, retV, retVA, ↓reduceIte, reduceCtorEq, Nat.reduceAdd, Nat.reduceSub, Nat.reduceMul, Nat.reduceLT, Nat.reduceLeDiff, Nat.reduceEqDiff, Nat.reduceDiv, Nat.reduceMod, Nat.reducePow, Int.reduceAdd, Int.reduceSub, Int.reduceMul, Int.reduceLT, Int.reduceLE, Int.reduceEq, Int.reduceNe, Int.reducePow, Int.reduceToNat, Int.reduceNeg]
      refine round_of ⟨k + 1, by omega, ?_⟩ ?_
      · simp -dsimp -implicitDefEqProofs (disch := first | omega | (simp only [List.length_append, List.length_cons, List.length_nil, List.length_take, List.length_drop]; omega)) only [hs, ↓aPre, aPost, oneW, allOne, retV, retVA, ↓reduceIte, reduceCtorEq, Nat.reduceAdd, Nat.reduceSub, Nat.reduceMul, Nat.reduceLT, Nat.reduceLeDiff, Nat.reduceEqDiff, Nat.reduceDiv, Nat.reduceMod, Nat.reducePow, Int.reduceAdd, Int.reduceSub, Int.reduceMul, Int.reduceLT, Int.reduceLE, Int.reduceEq, Int.reduceNe, Int.reducePow, Int.reduceToNat, Int.reduceNeg]
      · simp -dsimp -implicitDefEqProofs (disch := first | omega | (simp only [List.length_append, List.length_cons, List.length_nil, List.length_take, List.length_drop]; omega)) only [hs, ↓aPre, aPost, oneW, allOne, retV, retVA, ↓reduceIte, reduceCtorEq, Nat.reduceAdd, Nat.reduceSub, Nat.reduceMul, Nat.reduceLT, Nat.reduceLeDiff, Nat.reduceEqDiff, Nat.reduceDiv, Nat.reduceMod, Nat.reducePow, Int.reduceAdd, Int.reduceSub, Int.reduceMul, Int.reduceLT, Int.reduceLE, Int.reduceEq, Int.reduceNe, Int.reducePow, Int.reduceToNat, Int.reduceNeg]
        omega
    · have t2 := togL_len y0 y1
      simp -dsimp -implicitDefEqProofs (disch := first | omega | (simp only [List.length_append, List.length_cons, List.length_nil, List.length_take, List.length_drop]; omega)) only [hs, ↓aPre, aPost, oneW, allOne, retV, retVA, ↓reduceIte, reduceCtorEq, Nat.reduceAdd, Nat.reduceSub, Nat.reduceMul, Nat.reduceLT, Nat.reduceLeDiff, Nat.reduceEqDiff, Nat.reduceDiv, Nat.reduceMod, Nat.reducePow, Int.reduceAdd, Int.reduceSub, Int.reduceMul, Int.reduceLT, Int.reduceLE, Int.reduceEq, Int.reduceNe, Int.reducePow, Int.reduceToNat, Int.reduceNeg]
      refine call_giv (toggle_giv y0 y1 (by omega)) ?_
      simp -dsimp -implicitDefEqProofs (disch := first | omega | (simp only [List.length_append, List.length_cons, List.length_nil, List.length_take, List.length_drop]; omega)) only [hs, ↓aPre, aPost, oneW, allOne, retV, retVA, ↓reduceIte, reduceCtorEq, Nat.reduceAdd, Nat.reduceSub, Nat.reduceMul, Nat.reduceLT, Nat.reduceLeDiff, Nat.reduceEqDiff, Nat.reduceDiv, Nat.reduceMod, Nat.reducePow, Int.reduceAdd, Int.reduceSub, Int.reduceMul, Int.reduceLT, Int.reduceLE, Int.reduceEq, Int.reduceNe, Int.reducePow, Int.reduceToNat, Int.reduceNeg]
      refine call_giv (toggle_giv _ y1 (by omega)) ?_
      have e1 : ((y0.length : Int) - 1).toNat = y0.length - 1 := by omega
      have hn : ¬ (1 < y0.length ∧ y0.getD (y0.length - 1) 0 = y1 ∧ y0.getD (y0.length - 2) 0 = y1) := by
        rintro ⟨a1, a2, a3⟩
        have := rightW_lt _ _ _ hr (y0.length - 2) (by omega)
        rw [show y0.length - 2 + 1 = y0.length - 1 by omega] at this
        omega
      have ht2 := tog_tog y0 y1 hn
      by_cases c0 : 0 < y0.length ∧ y0.getD (y0.length - 1) 0 = y1
      · have ht : togL y0 y1 = y0.take (y0.length - 1) := by rw [togL, if_pos c0]
        have c1 := c0.1
        have c2 := c0.2
        simp -dsimp -implicitDefEqProofs (disch := first | omega | (simp only [List.length_append, List.length_cons, List.length_nil, List.length_take, List.length_drop]; omega)) only [hs, e1, ht2, ↓aPre, aPost, oneW, allOne, retV, retVA, ↓reduceIte, reduceCtorEq, Nat.reduceAdd, Nat.reduceSub, Nat.reduceMul, Nat.reduceLT, Nat.reduceLeDiff, Nat.reduceEqDiff, Nat.reduceDiv, Nat.reduceMod, Nat.reducePow, Int.reduceAdd, Int.reduceSub, Int.reduceMul, Int.reduceLT, Int.reduceLE, Int.reduceEq, Int.reduceNe, Int.reducePow, Int.reduceToNat, Int.reduceNeg]
        rw [ht]
        refine call_giv (same_t _ (by rw [List.length_take]; omega)) ?_
        by_cases c3 : 1 < y0.length
        · have e2 : ((min (y0.length - 1) y0.length : Nat) - 1 : Int).toNat = y0.length - 2 := by omega
          have e3 : (y0.take (y0.length - 1)).getD (y0.length - 2) 0 = y0.getD (y0.length - 2) 0 := get_take _ _ _ (by omega)
          have c4 : ¬ y0.getD (y0.length - 2) 0 = y1 := fun h => hn ⟨c3, c2, h⟩
          simp -dsimp -implicitDefEqProofs (disch := first | omega | (simp only [List.length_append, List.length_cons, List.length_nil, List.length_take, List.length_drop]; omega)) only [hs, e2, e3, ht, ht2, ↓aPre, aPost, oneW, allOne, retV, retVA, ↓reduceIte, reduceCtorEq, Nat.reduceAdd, Nat.reduceSub, Nat.reduceMul, Nat.reduceLT, Nat.reduceLeDiff, Nat.reduceEqDiff, Nat.reduceDiv, Nat.reduceMod, Nat.reducePow, Int.reduceAdd, Int.reduceSub, Int.reduceMul, Int.reduceLT, Int.reduceLE, Int.reduceEq, Int.reduceNe, Int.reducePow, Int.reduceToNat, Int.reduceNeg]
          refine call_giv (same_t _ (by omega)) ?_
          simp -dsimp -implicitDefEqProofs (disch := first | omega | (simp only [List.length_append, List.length_cons, List.length_nil, List.length_take, List.length_drop]; omega)) only [hs, ↓aPre, aPost, oneW, allOne, retV, retVA, ↓reduceIte, reduceCtorEq, Nat.reduceAdd, Nat.reduceSub, Nat.reduceMul, Nat.reduceLT, Nat.reduceLeDiff, Nat.reduceEqDiff, Nat.reduceDiv, Nat.reduceMod, Nat.reducePow, Int.reduceAdd, Int.reduceSub, Int.reduceMul, Int.reduceLT, Int.reduceLE, Int.reduceEq, Int.reduceNe, Int.reducePow, Int.reduceToNat, Int.reduceNeg]
          exact post_eq rfl
        · simp -dsimp -implicitDefEqProofs (disch := first | omega | (simp only [List.length_append, List.length_cons, List.length_nil, List.length_take, List.length_drop]; omega)) only [hs, ht, ht2, ↓aPre, aPost, oneW, allOne, retV, retVA, ↓reduceIte, reduceCtorEq, Nat.reduceAdd, Nat.reduceSub, Nat.reduceMul, Nat.reduceLT, Nat.reduceLeDiff, Nat.reduceEqDiff, Nat.reduceDiv, Nat.reduceMod, Nat.reducePow, Int.reduceAdd, Int.reduceSub, Int.reduceMul, Int.reduceLT, Int.reduceLE, Int.reduceEq, Int.reduceNe, Int.reducePow, Int.reduceToNat, Int.reduceNeg]
          refine call_giv (same_t _ (by omega)) ?_
          simp -dsimp -implicitDefEqProofs (disch := first | omega | (simp only [List.length_append, List.length_cons, List.length_nil, List.length_take, List.length_drop]; omega)) only [hs, ↓aPre, aPost, oneW, allOne, retV, retVA, ↓reduceIte, reduceCtorEq, Nat.reduceAdd, Nat.reduceSub, Nat.reduceMul, Nat.reduceLT, Nat.reduceLeDiff, Nat.reduceEqDiff, Nat.reduceDiv, Nat.reduceMod, Nat.reducePow, Int.reduceAdd, Int.reduceSub, Int.reduceMul, Int.reduceLT, Int.reduceLE, Int.reduceEq, Int.reduceNe, Int.reducePow, Int.reduceToNat, Int.reduceNeg]
          exact post_eq rfl
      · have ht : togL y0 y1 = y0 ++ [y1] := by rw [togL, if_neg c0]
        rw [ht] at ht2
        by_cases c1 : 0 < y0.length
        · have c2 : ¬ y0.getD (y0.length - 1) 0 = y1 := fun h => c0 ⟨c1, h⟩
          simp -dsimp -implicitDefEqProofs (disch := first | omega | (simp only [List.length_append, List.length_cons, List.length_nil, List.length_take, List.length_drop]; omega)) only [hs, e1, ht, ht2, ↓aPre, aPost, oneW, allOne, retV, retVA, ↓reduceIte, reduceCtorEq, Nat.reduceAdd, Nat.reduceSub, Nat.reduceMul, Nat.reduceLT, Nat.reduceLeDiff, Nat.reduceEqDiff, Nat.reduceDiv, Nat.reduceMod, Nat.reducePow, Int.reduceAdd, Int.reduceSub, Int.reduceMul, Int.reduceLT, Int.reduceLE, Int.reduceEq, Int.reduceNe, Int.reducePow, Int.reduceToNat, Int.reduceNeg]
          have e4 : (y0 ++ [y1]).take y0.length = y0 := by simp
          have e5 : (y0 ++ [y1]).getD y0.length 0 = y1 := by rw [getD_app, if_neg (by omega), if_pos rfl]
          rw [e4]
          refine call_giv (same_t _ (by omega)) ?_
          simp -dsimp -implicitDefEqProofs (disch := first | omega | (simp only [List.length_append, List.length_cons, List.length_nil, List.length_take, List.length_drop]; omega)) only [hs, e5, ht, ht2, ↓aPre, aPost, oneW, allOne, retV, retVA, ↓reduceIte, reduceCtorEq, Nat.reduceAdd, Nat.reduceSub, Nat.reduceMul, Nat.reduceLT, Nat.reduceLeDiff, Nat.reduceEqDiff, Nat.reduceDiv, Nat.reduceMod, Nat.reducePow, Int.reduceAdd, Int.reduceSub, Int.reduceMul, Int.reduceLT, Int.reduceLE, Int.reduceEq, Int.reduceNe, Int.reducePow, Int.reduceToNat, Int.reduceNeg]
          refine call_giv (same_t _ (by omega)) ?_
          simp -dsimp -implicitDefEqProofs (disch := first | omega | (simp only [List.length_append, List.length_cons, List.length_nil, List.length_take, List.length_drop]; omega)) only [hs, ↓aPre, aPost, oneW, allOne, retV, retVA, ↓reduceIte, reduceCtorEq, Nat.reduceAdd, Nat.reduceSub, Nat.reduceMul, Nat.reduceLT, Nat.reduceLeDiff, Nat.reduceEqDiff, Nat.reduceDiv, Nat.reduceMod, Nat.reducePow, Int.reduceAdd, Int.reduceSub, Int.reduceMul, Int.reduceLT, Int.reduceLE, Int.reduceEq, Int.reduceNe, Int.reducePow, Int.reduceToNat, Int.reduceNeg]
          exact post_eq rfl
        · simp -dsimp -implicitDefEqProofs (disch := first | omega | (simp only [List.length_append, List.length_cons, List.length_nil, List.length_take, List.length_drop]; omega)) only [hs, e1, ht, ht2, ↓aPre, aPost, oneW, allOne, retV, retVA, ↓reduceIte, reduceCtorEq, Nat.reduceAdd, Nat.reduceSub, Nat.reduceMul, Nat.reduceLT, Nat.reduceLeDiff, Nat.reduceEqDiff, Nat.reduceDiv, Nat.reduceMod, Nat.reducePow, Int.reduceAdd, Int.reduceSub, Int.reduceMul, Int.reduceLT, Int.reduceLE, Int.reduceEq, Int.reduceNe, Int.reducePow, Int.reduceToNat, Int.reduceNeg]
          have e4 : (y0 ++ [y1]).take y0.length = y0 := by simp
          have e5 : (y0 ++ [y1]).getD y0.length 0 = y1 := by rw [getD_app, if_neg (by omega), if_pos rfl]
          rw [e4]
          refine call_giv (same_t _ (by omega)) ?_
          simp -dsimp -implicitDefEqProofs (disch := first | omega | (simp only [List.length_append, List.length_cons, List.length_nil, List.length_take, List.length_drop]; omega)) only [hs, e5, ht, ht2, ↓aPre, aPost, oneW, allOne, retV, retVA, ↓reduceIte, reduceCtorEq, Nat.reduceAdd, Nat.reduceSub, Nat.reduceMul, Nat.reduceLT, Nat.reduceLeDiff, Nat.reduceEqDiff, Nat.reduceDiv, Nat.reduceMod, Nat.reducePow, Int.reduceAdd, Int.reduceSub, Int.reduceMul, Int.reduceLT, Int.reduceLE, Int.reduceEq, Int.reduceNe, Int.reducePow, Int.reduceToNat, Int.reduceNeg]
          refine call_giv (same_t _ (by omega)) ?_
          simp -dsimp -implicitDefEqProofs (disch := first | omega | (simp only [List.length_append, List.length_cons, List.length_nil, List.length_take, List.length_drop]; omega)) only [hs, ↓aPre, aPost, oneW, allOne, retV, retVA, ↓reduceIte, reduceCtorEq, Nat.reduceAdd, Nat.reduceSub, Nat.reduceMul, Nat.reduceLT, Nat.reduceLeDiff, Nat.reduceEqDiff, Nat.reduceDiv, Nat.reduceMod, Nat.reducePow, Int.reduceAdd, Int.reduceSub, Int.reduceMul, Int.reduceLT, Int.reduceLE, Int.reduceEq, Int.reduceNe, Int.reducePow, Int.reduceToNat, Int.reduceNeg]
          exact post_eq rfl
end Go.Proofs.Ytmocmdcnkmgaiaa
