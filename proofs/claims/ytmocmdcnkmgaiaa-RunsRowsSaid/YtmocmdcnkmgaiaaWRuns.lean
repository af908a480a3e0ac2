/- Functions on rows' changes, of data: pixels, right places, a toggled place, clones, equal rows. No condition but what each says. -/
import Derived.Test.YtmocmdcnkmgaiaaWF
set_option linter.unusedSimpArgs false
set_option linter.unusedVariables false
namespace Go.Proofs.Ytmocmdcnkmgaiaa
open Go.Eng Go.RowKit

def bitB (row : List Int) (x : Nat) : Bool := decide (row.getD (x / 8) 0 / 2 ^ (7 - x % 8) % 2 = 1)
theorem black_giv (row : List Int) (x : Nat) (hx : x < 8 * row.length) (hl : row.length ≤ 140737488355328) (hb : Bytes row) : Giv Try.prog 23 [.lst 1 (li .u8 row), .c (.int .i64 x)] (retV [.c (.bool (bitB row x))]) := by
  refine Giv.of mixed c23 (Nat.le_of_ble_eq_true rfl) ?_
  simp -dsimp -implicitDefEqProofs (disch := first | omega | (simp only [List.length_append, List.length_cons, List.length_nil, List.length_take, List.length_drop]; omega)) only [a23, ↓aPre, aPost, oneW, allOne, retV, retVA, ↓reduceIte, reduceCtorEq, Nat.reduceAdd, Nat.reduceSub, Nat.reduceMul, Nat.reduceLT, Nat.reduceLeDiff, Nat.reduceEqDiff, Nat.reduceDiv, Nat.reduceMod, Nat.reducePow, Int.reduceAdd, Int.reduceSub, Int.reduceMul, Int.reduceLT, Int.reduceLE, Int.reduceEq, Int.reduceNe, Int.reducePow, Int.reduceToNat, Int.reduceNeg]
  refine post_eq ?_
  have hz := Bytes.get hb (x / 8)
  have e1 : ((x : Int) / 8).toNat = x / 8 := by omega
  have e2 : min (7 - (x : Int) % 8).toNat IntKind.u8.bits = 7 - x % 8 := by simp [IntKind.bits]; omega
  have hq : 0 ≤ row.getD (x / 8) 0 / 2 ^ (7 - x % 8) ∧ row.getD (x / 8) 0 / 2 ^ (7 - x % 8) < 256 :=
    ⟨Int.ediv_nonneg hz.1 (Int.pow_nonneg (by omega)), Int.lt_of_le_of_lt (Int.ediv_le_self _ hz.1) hz.2⟩
  rw [e1, e2, Int.fdiv_eq_ediv_of_nonneg _ (Int.pow_nonneg (by omega)), and1 _ hq.1 hq.2]
  rfl

def rightW (w : Int) : List Int → Int → Bool
  | [], _ => true
  | x :: l, was => decide (was < x ∧ x < w) && rightW w l x
theorem right_giv (l : List Int) (w : Int) (hl : l.length ≤ 140737488355328) : Giv Try.prog 17 [.lst 1 (li .i64 l), .c (.int .i64 w)] (retV [.c (.bool (rightW w l (-1)))]) := by
  refine Giv.of mixed c17 (Nat.le_of_ble_eq_true rfl) ?_
  simp -dsimp -implicitDefEqProofs (disch := first | omega | (simp only [List.length_append, List.length_cons, List.length_nil, List.length_take, List.length_drop]; omega)) only [a17, ↓aPre, aPost, oneW, allOne, retV, retVA, ↓reduceIte, reduceCtorEq, Nat.reduceAdd, Nat.reduceSub, Nat.reduceMul, Nat.reduceLT, Nat.reduceLeDiff, Nat.reduceEqDiff, Nat.reduceDiv, Nat.reduceMod, Nat.reducePow, Int.reduceAdd, Int.reduceSub, Int.reduceMul, Int.reduceLT, Int.reduceLE, Int.reduceEq, Int.reduceNe, Int.reducePow, Int.reduceToNat, Int.reduceNeg]
  refine loop_of (fun s => ∃ (k : Nat) (y : Int), k ≤ l.length ∧ s.tm 10 = .d (.c (.int .i64 k)) ∧ s.tm 5 = .d (.c (.int .i64 y)) ∧ s.tm 8 = .d (.lst 1 (li .i64 l)) ∧ s.tm 9 = .d (.c (.int .i64 l.length)) ∧ s.tm 1 = .d (.c (.int .i64 w)) ∧ rightW w (l.drop k) y = rightW w l (-1)) (fun s => l.length - (avN (s.tm 10)).toNat) ?_ ?_
  · refine ⟨0, -1, Nat.zero_le _, ?_⟩
    simp -dsimp -implicitDefEqProofs (disch := first | omega | (simp only [List.length_append, List.length_cons, List.length_nil, List.length_take, List.length_drop]; omega)) only [List.drop_zero, Int.natCast_zero, ↓aPre, aPost, oneW, allOne, retV, retVA, ↓reduceIte, reduceCtorEq, Nat.reduceAdd, Nat.reduceSub, Nat.reduceMul, Nat.reduceLT, Nat.reduceLeDiff, Nat.reduceEqDiff, Nat.reduceDiv, Nat.reduceMod, Nat.reducePow, Int.reduceAdd, Int.reduceSub, Int.reduceMul, Int.reduceLT, Int.reduceLE, Int.reduceEq, Int.reduceNe, Int.reducePow, Int.reduceToNat, Int.reduceNeg]
  rintro s ⟨k, y, hk, h10, h5, h8, h9, h1, hR⟩
  by_cases hlt : k < l.length
  · have hd := drop_at hlt
    rw [hd, rightW] at hR
    by_cases c1 : y < l.getD k 0
    · by_cases c2 : l.getD k 0 < w
      · simp -dsimp -implicitDefEqProofs (disch := first | omega | (simp only [List.length_append, List.length_cons, List.length_nil, List.length_take, List.length_drop]; omega)) only [h10, h5, h8, h9, h1, ↓aPre, aPost, oneW, allOne, retV, retVA, ↓reduceIte, reduceCtorEq, Nat.reduceAdd, Nat.reduceSub, Nat.reduceMul, Nat.reduceLT, Nat.reduceLeDiff, Nat.reduceEqDiff, Nat.reduceDiv, Nat.reduceMod, Nat.reducePow, Int.reduceAdd, Int.reduceSub, Int.reduceMul, Int.reduceLT, Int.reduceLE, Int.reduceEq, Int.reduceNe, Int.reducePow, Int.reduceToNat, Int.reduceNeg]
        refine round_of ⟨k + 1, l.getD k 0, by omega, ?_⟩ ?_
        · simp -dsimp -implicitDefEqProofs (disch := first | omega | (simp only [List.length_append, List.length_cons, List.length_nil, List.length_take, List.length_drop]; omega)) only [h10, h5, h8, h9, h1, ↓aPre, aPost, oneW, allOne, retV, retVA, ↓reduceIte, reduceCtorEq, Nat.reduceAdd, Nat.reduceSub, Nat.reduceMul, Nat.reduceLT, Nat.reduceLeDiff, Nat.reduceEqDiff, Nat.reduceDiv, Nat.reduceMod, Nat.reducePow, Int.reduceAdd, Int.reduceSub, Int.reduceMul, Int.reduceLT, Int.reduceLE, Int.reduceEq, Int.reduceNe, Int.reducePow, Int.reduceToNat, Int.reduceNeg]
          rw [← hR, decide_eq_true ⟨c1, c2⟩, Bool.true_and]
        · simp -dsimp -implicitDefEqProofs (disch := first | omega | (simp only [List.length_append, List.length_cons, List.length_nil, List.length_take, List.length_drop]; omega)) only [h10, ↓aPre, aPost, oneW, allOne, retV, retVA, ↓reduceIte, reduceCtorEq, Nat.reduceAdd, Nat.reduceSub, Nat.reduceMul, Nat.reduceLT, Nat.reduceLeDiff, Nat.reduceEqDiff, Nat.reduceDiv, Nat.reduceMod, Nat.reducePow, Int.reduceAdd, Int.reduceSub, Int.reduceMul, Int.reduceLT, Int.reduceLE, Int.reduceEq, Int.reduceNe, Int.reducePow, Int.reduceToNat, Int.reduceNeg]
          omega
      · simp -dsimp -implicitDefEqProofs (disch := first | omega | (simp only [List.length_append, List.length_cons, List.length_nil, List.length_take, List.length_drop]; omega)) only [h10, h5, h8, h9, h1, ↓aPre, aPost, oneW, allOne, retV, retVA, ↓reduceIte, reduceCtorEq, Nat.reduceAdd, Nat.reduceSub, Nat.reduceMul, Nat.reduceLT, Nat.reduceLeDiff, Nat.reduceEqDiff, Nat.reduceDiv, Nat.reduceMod, Nat.reducePow, Int.reduceAdd, Int.reduceSub, Int.reduceMul, Int.reduceLT, Int.reduceLE, Int.reduceEq, Int.reduceNe, Int.reducePow, Int.reduceToNat, Int.reduceNeg]
        refine post_eq ?_
        rw [← hR, decide_eq_false (fun h => c2 h.2), Bool.false_and]
    · simp -dsimp -implicitDefEqProofs (disch := first | omega | (simp only [List.length_append, List.length_cons, List.length_nil, List.length_take, List.length_drop]; omega)) only [h10, h5, h8, h9, h1, ↓aPre, aPost, oneW, allOne, retV, retVA, ↓reduceIte, reduceCtorEq, Nat.reduceAdd, Nat.reduceSub, Nat.reduceMul, Nat.reduceLT, Nat.reduceLeDiff, Nat.reduceEqDiff, Nat.reduceDiv, Nat.reduceMod, Nat.reducePow, Int.reduceAdd, Int.reduceSub, Int.reduceMul, Int.reduceLT, Int.reduceLE, Int.reduceEq, Int.reduceNe, Int.reducePow, Int.reduceToNat, Int.reduceNeg]
      refine post_eq ?_
      rw [← hR, decide_eq_false (fun h => c1 h.1), Bool.false_and]
  · simp -dsimp -implicitDefEqProofs (disch := first | omega | (simp only [List.length_append, List.length_cons, List.length_nil, List.length_take, List.length_drop]; omega)) only [h10, h5, h8, h9, h1, ↓aPre, aPost, oneW, allOne, retV, retVA, ↓reduceIte, reduceCtorEq, Nat.reduceAdd, Nat.reduceSub, Nat.reduceMul, Nat.reduceLT, Nat.reduceLeDiff, Nat.reduceEqDiff, Nat.reduceDiv, Nat.reduceMod, Nat.reducePow, Int.reduceAdd, Int.reduceSub, Int.reduceMul, Int.reduceLT, Int.reduceLE, Int.reduceEq, Int.reduceNe, Int.reducePow, Int.reduceToNat, Int.reduceNeg]
    obtain rfl : k = l.length := by omega
    refine post_eq ?_
    rw [← hR, List.drop_length]; rfl
end Go.Proofs.Ytmocmdcnkmgaiaa
