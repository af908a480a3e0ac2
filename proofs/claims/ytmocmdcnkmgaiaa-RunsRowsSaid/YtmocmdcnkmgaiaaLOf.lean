/- Where any row changes: the law's walk and its plain law. No further condition. -/
import Derived.Test.YtmocmdcnkmgaiaaWRuns3
import Derived.Test.YtmocmdcnkmgaiaaWRunsRef
set_option linter.unusedSimpArgs false
set_option linter.unusedVariables false
namespace Go.Proofs.Ytmocmdcnkmgaiaa
open Go.Eng Go.RowKit
theorem bitsK_get (row : List Int) : ∀ n x, x < 8 * n → (bitsK row n).getD x 0 = 48 + row.getD (x / 8) 0 / 2 ^ (7 - x % 8) % 2
  | 0, x, h => by omega
  | n + 1, x, h => by
    have e := bitsK_len row n
    rw [bitsK]
    by_cases hx : x < 8 * n
    · rw [← bitsK_get row n x hx]
      simp only [List.getD, List.getElem?_append_left (show x < (bitsK row n).length by omega)]
    · have e1 : x / 8 = n := by omega
      have e2 : x - (bitsK row n).length = x % 8 := by omega
      have := wordK_get (row.getD n 0) 8 (x % 8) (by omega)
      rw [wq_pow] at this
      rw [e1, show 7 - x % 8 = 8 - 1 - x % 8 by omega, ← this]
      simp only [List.getD, List.getElem?_append_right (show (bitsK row n).length ≤ x by omega), e2]
theorem wordK_bytes (v : Int) : ∀ k, Bytes (wordK v k)
  | 0 => Bytes.nil
  | k + 1 => by rw [wordK]; exact (Bytes.one (by omega)).app (wordK_bytes v k)
theorem bitsK_bytes (row : List Int) : ∀ k, Bytes (bitsK row k)
  | 0 => Bytes.nil
  | k + 1 => by rw [bitsK]; exact (bitsK_bytes row k).app (wordK_bytes _ 8)
theorem of_ch (row s : List Int) (n : Nat) (h : ∀ x, x < n → s.getD x 0 = 48 + row.getD (x / 8) 0 / 2 ^ (7 - x % 8) % 2) : ∀ k, k ≤ n → ofK row k = chK s k ∧ chWas s k = 48 + ((ofK row k).length : Int) % 2
  | 0, _ => ⟨rfl, rfl⟩
  | k + 1, hk => by
    obtain ⟨h1, h2⟩ := of_ch row s n h k (by omega)
    have hx := h k (by omega)
    have hb : bitB row k = decide (row.getD (k / 8) 0 / 2 ^ (7 - k % 8) % 2 = 1) := rfl
    rw [ofK, chK, chWas, ← h1]
    generalize hq : row.getD (k / 8) 0 / 2 ^ (7 - k % 8) % 2 = q at hx hb
    have hq2 : 0 ≤ q ∧ q < 2 := by omega
    rw [h2, hx, hb]
    by_cases c : ((ofK row k).length : Int) % 2 = q
    · have e1 : decide (q = 1) = decide (((ofK row k).length : Int) % 2 = 1) := by rw [c]
      rw [if_pos e1, if_pos (by omega)]
      exact ⟨rfl, by omega⟩
    · have e1 : ¬ decide (q = 1) = decide (((ofK row k).length : Int) % 2 = 1) := by
        simp only [decide_eq_decide]; omega
      rw [if_neg e1, if_neg (by omega)]
      refine ⟨rfl, ?_⟩
      simp only [List.length_append, List.length_singleton]
      omega
theorem refAll_giv (row : List Int) (w : Int) (hl : row.length ≤ 100000) (hb : Bytes row) : Giv Try.prog 11 [.c (.string (strOfNums row)), .c (.int .i64 w)] (retV (ofD row w)) := by
  refine Giv.of mixed c11 (Nat.le_of_ble_eq_true rfl) ?_
  by_cases h1 : w < 0
  · simp -dsimp -implicitDefEqProofs (disch := first | omega | (simp only [List.length_append, List.length_cons, List.length_nil, List.length_take, List.length_drop]; omega)) only [a11, ↓aPre, aPost, oneW, allOne, retV, retVA, ↓reduceIte, reduceCtorEq, Nat.reduceAdd, Nat.reduceSub, Nat.reduceMul, Nat.reduceLT, Nat.reduceLeDiff, Nat.reduceEqDiff, Nat.reduceDiv, Nat.reduceMod, Nat.reducePow, Int.reduceAdd, Int.reduceSub, Int.reduceMul, Int.reduceLT, Int.reduceLE, Int.reduceEq, Int.reduceNe, Int.reducePow, Int.reduceToNat, Int.reduceNeg]
    rw [ofD, if_pos (.inl h1)]
    exact post_nil (leD_refl _)
  by_cases h2 : 32768 < w
  · simp -dsimp -implicitDefEqProofs (disch := first | omega | (simp only [List.length_append, List.length_cons, List.length_nil, List.length_take, List.length_drop]; omega)) only [a11, ↓aPre, aPost, oneW, allOne, retV, retVA, ↓reduceIte, reduceCtorEq, Nat.reduceAdd, Nat.reduceSub, Nat.reduceMul, Nat.reduceLT, Nat.reduceLeDiff, Nat.reduceEqDiff, Nat.reduceDiv, Nat.reduceMod, Nat.reducePow, Int.reduceAdd, Int.reduceSub, Int.reduceMul, Int.reduceLT, Int.reduceLE, Int.reduceEq, Int.reduceNe, Int.reducePow, Int.reduceToNat, Int.reduceNeg]
    rw [ofD, if_pos (.inr h2)]
    exact post_nil (leD_refl _)
  obtain ⟨k, rfl⟩ : ∃ k : Nat, w = k := ⟨w.toNat, by omega⟩
  rw [ofD, if_neg (by omega)]
  simp -dsimp -implicitDefEqProofs (disch := first | omega | (simp only [List.length_append, List.length_cons, List.length_nil, List.length_take, List.length_drop]; omega)) only [a11, ↓aPre, aPost, oneW, allOne, retV, retVA, ↓reduceIte, reduceCtorEq, Nat.reduceAdd, Nat.reduceSub, Nat.reduceMul, Nat.reduceLT, Nat.reduceLeDiff, Nat.reduceEqDiff, Nat.reduceDiv, Nat.reduceMod, Nat.reducePow, Int.reduceAdd, Int.reduceSub, Int.reduceMul, Int.reduceLT, Int.reduceLE, Int.reduceEq, Int.reduceNe, Int.reducePow, Int.reduceToNat, Int.reduceNeg]
  refine call_giv (refOf_giv row hl hb) ?_
  have e := bitsK_len row row.length
  by_cases h3 : 8 * row.length < (k : Int)
  · simp -dsimp -implicitDefEqProofs (disch := first | omega | (simp only [List.length_append, List.length_cons, List.length_nil, List.length_take, List.length_drop]; omega)) only [e, ↓aPre, aPost, oneW, allOne, retV, retVA, ↓reduceIte, reduceCtorEq, Nat.reduceAdd, Nat.reduceSub, Nat.reduceMul, Nat.reduceLT, Nat.reduceLeDiff, Nat.reduceEqDiff, Nat.reduceDiv, Nat.reduceMod, Nat.reducePow, Int.reduceAdd, Int.reduceSub, Int.reduceMul, Int.reduceLT, Int.reduceLE, Int.reduceEq, Int.reduceNe, Int.reducePow, Int.reduceToNat, Int.reduceNeg]
    rw [if_pos h3]
    exact post_nil (leD_refl _)
  rw [if_neg h3]
  simp -dsimp -implicitDefEqProofs (disch := first | omega | (simp only [List.length_append, List.length_cons, List.length_nil, List.length_take, List.length_drop]; omega)) only [e, ↓aPre, aPost, oneW, allOne, retV, retVA, ↓reduceIte, reduceCtorEq, Nat.reduceAdd, Nat.reduceSub, Nat.reduceMul, Nat.reduceLT, Nat.reduceLeDiff, Nat.reduceEqDiff, Nat.reduceDiv, Nat.reduceMod, Nat.reducePow, Int.reduceAdd, Int.reduceSub, Int.reduceMul, Int.reduceLT, Int.reduceLE, Int.reduceEq, Int.reduceNe, Int.reducePow, Int.reduceToNat, Int.reduceNeg]
  refine call_giv (changes_giv _ (by rw [List.length_take]; omega) ((bitsK_bytes row _).take _)) ?_
  simp -dsimp -implicitDefEqProofs (disch := first | omega | (simp only [List.length_append, List.length_cons, List.length_nil, List.length_take, List.length_drop]; omega)) only [↓aPre, aPost, oneW, allOne, retV, retVA, ↓reduceIte, reduceCtorEq, Nat.reduceAdd, Nat.reduceSub, Nat.reduceMul, Nat.reduceLT, Nat.reduceLeDiff, Nat.reduceEqDiff, Nat.reduceDiv, Nat.reduceMod, Nat.reducePow, Int.reduceAdd, Int.reduceSub, Int.reduceMul, Int.reduceLT, Int.reduceLE, Int.reduceEq, Int.reduceNe, Int.reducePow, Int.reduceToNat, Int.reduceNeg]
  refine post_eq ?_
  rw [show min k (bitsK row row.length).length = k by omega, (of_ch row _ k (fun x hx => ?_) k (Nat.le_refl _)).1]
  rw [← bitsK_get row row.length x (by omega)]
  simp only [List.getD, List.getElem?_take_of_lt hx]
theorem runsOf_giv (y0 : List Int) (h0 : (y0.length * 1 ≤ 140737488351232 ∧ ∀ z ∈ y0, 0 ≤ z ∧ z ≤ 255)) (y1 : Int) (h1 : (-9223372036854775808 ≤ y1 ∧ y1 ≤ 9223372036854775807)) : Giv Try.prog 3 [.lst 1 (li .u8 y0), .c (.int .i64 y1)] (.d (.c (.bool true))) := by
  have hb : Bytes y0 := fun z hz => by have := h0.2 z hz; omega
  refine Giv.of (out := [.c (.bool true)]) mixed c3 (Nat.le_of_ble_eq_true rfl) ?_
  simp -dsimp -implicitDefEqProofs (disch := first | omega | (simp only [List.length_append, List.length_cons, List.length_nil, List.length_take, List.length_drop]; omega)) only [a3, ↓aPre, aPost, oneW, allOne, retV, retVA, ↓reduceIte, reduceCtorEq, Nat.reduceAdd, Nat.reduceSub, Nat.reduceMul, Nat.reduceLT, Nat.reduceLeDiff, Nat.reduceEqDiff, Nat.reduceDiv, Nat.reduceMod, Nat.reducePow, Int.reduceAdd, Int.reduceSub, Int.reduceMul, Int.reduceLT, Int.reduceLE, Int.reduceEq, Int.reduceNe, Int.reducePow, Int.reduceToNat, Int.reduceNeg]
  refine call_giv lives_giv ?_
  by_cases hl : 200 < y0.length
  · simp -dsimp -implicitDefEqProofs (disch := first | omega | (simp only [List.length_append, List.length_cons, List.length_nil, List.length_take, List.length_drop]; omega)) only [↓aPre, aPost, oneW, allOne, retV, retVA, ↓reduceIte, reduceCtorEq, Nat.reduceAdd, Nat.reduceSub, Nat.reduceMul, Nat.reduceLT, Nat.reduceLeDiff, Nat.reduceEqDiff, Nat.reduceDiv, Nat.reduceMod, Nat.reducePow, Int.reduceAdd, Int.reduceSub, Int.reduceMul, Int.reduceLT, Int.reduceLE, Int.reduceEq, Int.reduceNe, Int.reducePow, Int.reduceToNat, Int.reduceNeg]
    refine call_giv lives_giv ?_
    simp -dsimp -implicitDefEqProofs (disch := first | omega | (simp only [List.length_append, List.length_cons, List.length_nil, List.length_take, List.length_drop]; omega)) only [↓aPre, aPost, oneW, allOne, retV, retVA, ↓reduceIte, reduceCtorEq, Nat.reduceAdd, Nat.reduceSub, Nat.reduceMul, Nat.reduceLT, Nat.reduceLeDiff, Nat.reduceEqDiff, Nat.reduceDiv, Nat.reduceMod, Nat.reducePow, Int.reduceAdd, Int.reduceSub, Int.reduceMul, Int.reduceLT, Int.reduceLE, Int.reduceEq, Int.reduceNe, Int.reducePow, Int.reduceToNat, Int.reduceNeg]
    exact post_eq rfl
  simp -dsimp -implicitDefEqProofs (disch := first | omega | (simp only [List.length_append, List.length_cons, List.length_nil, List.length_take, List.length_drop]; omega)) only [↓aPre, aPost, oneW, allOne, retV, retVA, ↓reduceIte, reduceCtorEq, Nat.reduceAdd, Nat.reduceSub, Nat.reduceMul, Nat.reduceLT, Nat.reduceLeDiff, Nat.reduceEqDiff, Nat.reduceDiv, Nat.reduceMod, Nat.reducePow, Int.reduceAdd, Int.reduceSub, Int.reduceMul, Int.reduceLT, Int.reduceLE, Int.reduceEq, Int.reduceNe, Int.reducePow, Int.reduceToNat, Int.reduceNeg]
  refine call_giv (of_giv y0 y1 (by omega) hb) ?_
  have hk : (ofK y0 y1.toNat).length ≤ y1.toNat := ofK_len y0 _
  have sm := same_giv (ofK y0 y1.toNat) (ofK y0 y1.toNat)
  have sn := same_giv [] [] (by decide) (by decide)
  rw [decide_eq_true rfl] at sm sn
  have fin : ∀ (l : List Int) (e : Int), Giv Try.prog 12 [.lst 1 (li .i64 l), .lst 1 (li .i64 l)] (retV [.c (.bool true)]) → ofD y0 y1 = [.lst 1 (li .i64 l), .c (.int .i64 e)] → True := fun _ _ _ _ => trivial
  by_cases c1 : y1 < 0 ∨ 32768 < y1
  · have e : ofD y0 y1 = [.lst 1 [], .c (.int .i64 1)] := by rw [ofD, if_pos c1]
    simp -dsimp -implicitDefEqProofs (disch := first | omega | (simp only [List.length_append, List.length_cons, List.length_nil, List.length_take, List.length_drop]; omega)) only [e, ↓aPre, aPost, oneW, allOne, retV, retVA, ↓reduceIte, reduceCtorEq, Nat.reduceAdd, Nat.reduceSub, Nat.reduceMul, Nat.reduceLT, Nat.reduceLeDiff, Nat.reduceEqDiff, Nat.reduceDiv, Nat.reduceMod, Nat.reducePow, Int.reduceAdd, Int.reduceSub, Int.reduceMul, Int.reduceLT, Int.reduceLE, Int.reduceEq, Int.reduceNe, Int.reducePow, Int.reduceToNat, Int.reduceNeg]
    refine call_giv (refAll_giv y0 y1 (by omega) hb) ?_
    simp -dsimp -implicitDefEqProofs (disch := first | omega | (simp only [List.length_append, List.length_cons, List.length_nil, List.length_take, List.length_drop]; omega)) only [e, ↓aPre, aPost, oneW, allOne, retV, retVA, ↓reduceIte, reduceCtorEq, Nat.reduceAdd, Nat.reduceSub, Nat.reduceMul, Nat.reduceLT, Nat.reduceLeDiff, Nat.reduceEqDiff, Nat.reduceDiv, Nat.reduceMod, Nat.reducePow, Int.reduceAdd, Int.reduceSub, Int.reduceMul, Int.reduceLT, Int.reduceLE, Int.reduceEq, Int.reduceNe, Int.reducePow, Int.reduceToNat, Int.reduceNeg]
    refine call_giv sn ?_
    simp -dsimp -implicitDefEqProofs (disch := first | omega | (simp only [List.length_append, List.length_cons, List.length_nil, List.length_take, List.length_drop]; omega)) only [str_beq hb hb, ↓aPre, aPost, oneW, allOne, retV, retVA, ↓reduceIte, reduceCtorEq, Nat.reduceAdd, Nat.reduceSub, Nat.reduceMul, Nat.reduceLT, Nat.reduceLeDiff, Nat.reduceEqDiff, Nat.reduceDiv, Nat.reduceMod, Nat.reducePow, Int.reduceAdd, Int.reduceSub, Int.reduceMul, Int.reduceLT, Int.reduceLE, Int.reduceEq, Int.reduceNe, Int.reducePow, Int.reduceToNat, Int.reduceNeg]
    exact post_eq rfl
  by_cases c2 : 8 * y0.length < y1
  · have e : ofD y0 y1 = [.lst 1 [], .c (.int .i64 2)] := by rw [ofD, if_neg c1, if_pos c2]
    simp -dsimp -implicitDefEqProofs (disch := first | omega | (simp only [List.length_append, List.length_cons, List.length_nil, List.length_take, List.length_drop]; omega)) only [e, ↓aPre, aPost, oneW, allOne, retV, retVA, ↓reduceIte, reduceCtorEq, Nat.reduceAdd, Nat.reduceSub, Nat.reduceMul, Nat.reduceLT, Nat.reduceLeDiff, Nat.reduceEqDiff, Nat.reduceDiv, Nat.reduceMod, Nat.reducePow, Int.reduceAdd, Int.reduceSub, Int.reduceMul, Int.reduceLT, Int.reduceLE, Int.reduceEq, Int.reduceNe, Int.reducePow, Int.reduceToNat, Int.reduceNeg]
    refine call_giv (refAll_giv y0 y1 (by omega) hb) ?_
    simp -dsimp -implicitDefEqProofs (disch := first | omega | (simp only [List.length_append, List.length_cons, List.length_nil, List.length_take, List.length_drop]; omega)) only [e, ↓aPre, aPost, oneW, allOne, retV, retVA, ↓reduceIte, reduceCtorEq, Nat.reduceAdd, Nat.reduceSub, Nat.reduceMul, Nat.reduceLT, Nat.reduceLeDiff, Nat.reduceEqDiff, Nat.reduceDiv, Nat.reduceMod, Nat.reducePow, Int.reduceAdd, Int.reduceSub, Int.reduceMul, Int.reduceLT, Int.reduceLE, Int.reduceEq, Int.reduceNe, Int.reducePow, Int.reduceToNat, Int.reduceNeg]
    refine call_giv sn ?_
    simp -dsimp -implicitDefEqProofs (disch := first | omega | (simp only [List.length_append, List.length_cons, List.length_nil, List.length_take, List.length_drop]; omega)) only [str_beq hb hb, ↓aPre, aPost, oneW, allOne, retV, retVA, ↓reduceIte, reduceCtorEq, Nat.reduceAdd, Nat.reduceSub, Nat.reduceMul, Nat.reduceLT, Nat.reduceLeDiff, Nat.reduceEqDiff, Nat.reduceDiv, Nat.reduceMod, Nat.reducePow, Int.reduceAdd, Int.reduceSub, Int.reduceMul, Int.reduceLT, Int.reduceLE, Int.reduceEq, Int.reduceNe, Int.reducePow, Int.reduceToNat, Int.reduceNeg]
    exact post_eq rfl
  have e : ofD y0 y1 = [.lst 1 (li .i64 (ofK y0 y1.toNat)), .c (.int .i64 0)] := by rw [ofD, if_neg c1, if_neg c2]
  simp -dsimp -implicitDefEqProofs (disch := first | omega | (simp only [List.length_append, List.length_cons, List.length_nil, List.length_take, List.length_drop]; omega)) only [e, ↓aPre, aPost, oneW, allOne, retV, retVA, ↓reduceIte, reduceCtorEq, Nat.reduceAdd, Nat.reduceSub, Nat.reduceMul, Nat.reduceLT, Nat.reduceLeDiff, Nat.reduceEqDiff, Nat.reduceDiv, Nat.reduceMod, Nat.reducePow, Int.reduceAdd, Int.reduceSub, Int.reduceMul, Int.reduceLT, Int.reduceLE, Int.reduceEq, Int.reduceNe, Int.reducePow, Int.reduceToNat, Int.reduceNeg]
  refine call_giv (refAll_giv y0 y1 (by omega) hb) ?_
  simp -dsimp -implicitDefEqProofs (disch := first | omega | (simp only [List.length_append, List.length_cons, List.length_nil, List.length_take, List.length_drop]; omega)) only [e, ↓aPre, aPost, oneW, allOne, retV, retVA, ↓reduceIte, reduceCtorEq, Nat.reduceAdd, Nat.reduceSub, Nat.reduceMul, Nat.reduceLT, Nat.reduceLeDiff, Nat.reduceEqDiff, Nat.reduceDiv, Nat.reduceMod, Nat.reducePow, Int.reduceAdd, Int.reduceSub, Int.reduceMul, Int.reduceLT, Int.reduceLE, Int.reduceEq, Int.reduceNe, Int.reducePow, Int.reduceToNat, Int.reduceNeg]
  refine call_giv (sm (by omega) (by omega)) ?_
  simp -dsimp -implicitDefEqProofs (disch := first | omega | (simp only [List.length_append, List.length_cons, List.length_nil, List.length_take, List.length_drop]; omega)) only [str_beq hb hb, ↓aPre, aPost, oneW, allOne, retV, retVA, ↓reduceIte, reduceCtorEq, Nat.reduceAdd, Nat.reduceSub, Nat.reduceMul, Nat.reduceLT, Nat.reduceLeDiff, Nat.reduceEqDiff, Nat.reduceDiv, Nat.reduceMod, Nat.reducePow, Int.reduceAdd, Int.reduceSub, Int.reduceMul, Int.reduceLT, Int.reduceLE, Int.reduceEq, Int.reduceNe, Int.reducePow, Int.reduceToNat, Int.reduceNeg]
  exact post_eq rfl
end Go.Proofs.Ytmocmdcnkmgaiaa
