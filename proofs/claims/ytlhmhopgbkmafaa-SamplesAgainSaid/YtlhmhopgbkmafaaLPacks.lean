/- SamplesPacks: the law's function gives true of all data. No condition but that whole numbers are of their kinds. -/
import Derived.Test.YtlhmhopgbkmafaaWPack
set_option linter.unusedSimpArgs false
set_option linter.unusedVariables false
set_option maxRecDepth 8000
set_option maxHeartbeats 4000000
namespace Go.Proofs.Ytlhmhopgbkmafaa
open Go.Eng Go.RowKit
theorem pack_x (l : List Int) (w : Int) (big : Bool) (h : l.length ≤ 100000000) (hw : -9223372036854775808 ≤ w ∧ w ≤ 9223372036854775807) (he : szE l.length w = 1) :
    Giv Try.prog 8 [.lst 1 (li .u32 l), .c (.int .i64 w), .c (.bool big)] (retV [.lst 1 [], .c (.int .i64 1)]) ∧ Giv Try.prog 9 [.lst 1 (li .u32 l), .c (.int .i64 w), .c (.bool big)] (retV [.c (.string (strOfNums [])), .c (.int .i64 1)]) := by
  have hs := size_giv l.length w
  rw [szV, he, if_neg (by decide)] at hs
  constructor
  · refine Giv.of mixed c8 (Nat.le_of_ble_eq_true rfl) ?_
    simp -dsimp -implicitDefEqProofs (disch := first | omega | (simp only [List.length_append, List.length_cons, List.length_nil, List.length_take, List.length_drop]; omega)) only [a8, ↓aPre, aPost, oneW, allOne, retV, retVA, ↓reduceIte, reduceCtorEq, Nat.reduceAdd, Nat.reduceSub, Nat.reduceMul, Nat.reduceLT, Nat.reduceLeDiff, Nat.reduceEqDiff, Nat.reduceDiv, Nat.reduceMod, Nat.reducePow, Int.reduceAdd, Int.reduceSub, Int.reduceMul, Int.reduceLT, Int.reduceLE, Int.reduceEq, Int.reduceNe, Int.reducePow, Int.reduceToNat, Int.reduceNeg]
    refine call_giv hs.1 ?_
    simp -dsimp -implicitDefEqProofs (disch := first | omega | (simp only [List.length_append, List.length_cons, List.length_nil, List.length_take, List.length_drop]; omega)) only [↓aPre, aPost, oneW, allOne, retV, retVA, ↓reduceIte, reduceCtorEq, Nat.reduceAdd, Nat.reduceSub, Nat.reduceMul, Nat.reduceLT, Nat.reduceLeDiff, Nat.reduceEqDiff, Nat.reduceDiv, Nat.reduceMod, Nat.reducePow, Int.reduceAdd, Int.reduceSub, Int.reduceMul, Int.reduceLT, Int.reduceLE, Int.reduceEq, Int.reduceNe, Int.reducePow, Int.reduceToNat, Int.reduceNeg]
    exact post_le (by repeat (first | exact leD.nil | exact leE.refl _ | exact leE.nil _ | refine leD.cons ?_ ?_ | refine leE.agg ?_))
  · refine Giv.of mixed c9 (Nat.le_of_ble_eq_true rfl) ?_
    simp -dsimp -implicitDefEqProofs (disch := first | omega | (simp only [List.length_append, List.length_cons, List.length_nil, List.length_take, List.length_drop]; omega)) only [a9, ↓aPre, aPost, oneW, allOne, retV, retVA, ↓reduceIte, reduceCtorEq, Nat.reduceAdd, Nat.reduceSub, Nat.reduceMul, Nat.reduceLT, Nat.reduceLeDiff, Nat.reduceEqDiff, Nat.reduceDiv, Nat.reduceMod, Nat.reducePow, Int.reduceAdd, Int.reduceSub, Int.reduceMul, Int.reduceLT, Int.reduceLE, Int.reduceEq, Int.reduceNe, Int.reducePow, Int.reduceToNat, Int.reduceNeg]
    refine call_giv hs.2 ?_
    simp -dsimp -implicitDefEqProofs (disch := first | omega | (simp only [List.length_append, List.length_cons, List.length_nil, List.length_take, List.length_drop]; omega)) only [↓aPre, aPost, oneW, allOne, retV, retVA, ↓reduceIte, reduceCtorEq, Nat.reduceAdd, Nat.reduceSub, Nat.reduceMul, Nat.reduceLT, Nat.reduceLeDiff, Nat.reduceEqDiff, Nat.reduceDiv, Nat.reduceMod, Nat.reducePow, Int.reduceAdd, Int.reduceSub, Int.reduceMul, Int.reduceLT, Int.reduceLE, Int.reduceEq, Int.reduceNe, Int.reducePow, Int.reduceToNat, Int.reduceNeg]
    exact post_eq rfl
theorem lives_giv : Giv Try.prog 7 [] (retV [.c (.bool true)]) := by
  refine Giv.of mixed c7 (Nat.le_of_ble_eq_true rfl) ?_
  have f1 : Fit [1, 0, 1, 1] 1 4 := by
    intro i hi
    have : i = 0 ∨ i = 1 ∨ i = 2 ∨ i = 3 := by omega
    rcases this with rfl | rfl | rfl | rfl <;> decide
  have f2 : Fit [258] 16 1 := by
    intro i hi
    obtain rfl : i = 0 := by omega
    decide
  have h1 : Giv Try.prog 8 [.lst 1 (li .u32 [1, 0, 1, 1]), .c (.int .i64 1), .c (.bool false)] (retV [.lst 1 (li .u8 (pkB [1, 0, 1, 1] 1 false)), .c (.int .i64 0)]) := pack_giv [1, 0, 1, 1] 1 false ⟨by decide, by intro z hz; simp at hz; omega, by decide⟩ 4 (by decide) f1 (.inl rfl)
  have h2 : Giv Try.prog 8 [.lst 1 (li .u32 [258]), .c (.int .i64 16), .c (.bool false)] (retV [.lst 1 (li .u8 (pkB [258] 16 false)), .c (.int .i64 0)]) := pack_giv [258] 16 false ⟨by decide, by intro z hz; simp at hz; omega, by decide⟩ 1 (by decide) f2 (.inl rfl)
  rw [show pkB [1, 0, 1, 1] 1 false = [176] by decide] at h1
  rw [show pkB [258] 16 false = [2, 1] by decide] at h2
  simp -dsimp -implicitDefEqProofs (disch := first | omega | (simp only [List.length_append, List.length_cons, List.length_nil, List.length_take, List.length_drop]; omega)) only [a7, ↓aPre, aPost, oneW, allOne, retV, retVA, ↓reduceIte, reduceCtorEq, Nat.reduceAdd, Nat.reduceSub, Nat.reduceMul, Nat.reduceLT, Nat.reduceLeDiff, Nat.reduceEqDiff, Nat.reduceDiv, Nat.reduceMod, Nat.reducePow, Int.reduceAdd, Int.reduceSub, Int.reduceMul, Int.reduceLT, Int.reduceLE, Int.reduceEq, Int.reduceNe, Int.reducePow, Int.reduceToNat, Int.reduceNeg]
  refine call_giv h1 ?_
  simp -dsimp -implicitDefEqProofs (disch := first | omega | (simp only [List.length_append, List.length_cons, List.length_nil, List.length_take, List.length_drop]; omega)) only [↓aPre, aPost, oneW, allOne, retV, retVA, ↓reduceIte, reduceCtorEq, Nat.reduceAdd, Nat.reduceSub, Nat.reduceMul, Nat.reduceLT, Nat.reduceLeDiff, Nat.reduceEqDiff, Nat.reduceDiv, Nat.reduceMod, Nat.reducePow, Int.reduceAdd, Int.reduceSub, Int.reduceMul, Int.reduceLT, Int.reduceLE, Int.reduceEq, Int.reduceNe, Int.reducePow, Int.reduceToNat, Int.reduceNeg]
  refine call_giv h2 ?_
  simp -dsimp -implicitDefEqProofs (disch := first | omega | (simp only [List.length_append, List.length_cons, List.length_nil, List.length_take, List.length_drop]; omega)) only [↓aPre, aPost, oneW, allOne, retV, retVA, ↓reduceIte, reduceCtorEq, Nat.reduceAdd, Nat.reduceSub, Nat.reduceMul, Nat.reduceLT, Nat.reduceLeDiff, Nat.reduceEqDiff, Nat.reduceDiv, Nat.reduceMod, Nat.reducePow, Int.reduceAdd, Int.reduceSub, Int.reduceMul, Int.reduceLT, Int.reduceLE, Int.reduceEq, Int.reduceNe, Int.reducePow, Int.reduceToNat, Int.reduceNeg]
  exact post_eq rfl
/-- samples that go in, or that do not -/
theorem pack_all (l : List Int) (w : Int) (big : Bool) (hl : l.length ≤ 1000) (hI : In 4294967296 l) (hw : -9223372036854775808 ≤ w ∧ w ≤ 9223372036854775807) :
    ∃ (r : List Int) (e : Int), 0 ≤ e ∧ e ≤ 9 ∧ Giv Try.prog 8 [.lst 1 (li .u32 l), .c (.int .i64 w), .c (.bool big)] (retV [.lst 1 (li .u8 r), .c (.int .i64 e)]) ∧ Giv Try.prog 9 [.lst 1 (li .u32 l), .c (.int .i64 w), .c (.bool big)] (retV [.c (.string (strOfNums r)), .c (.int .i64 e)]) := by
  by_cases h1 : w < 1 ∨ w > 32
  · have he : szE l.length w = 1 := if_pos (by omega)
    have := pack_x l w big (by omega) hw he
    exact ⟨[], 1, by decide, by decide, this.1, this.2⟩
  obtain ⟨v, rfl⟩ := Int.eq_ofNat_of_zero_le (show 0 ≤ w by omega)
  have hS : Smp l v := ⟨hl, hI, by omega⟩
  obtain ⟨m, hm, hok, hend⟩ := stop_ex (fun i => l.getD i 0 < 2 ^ v) l.length
  have g1 := pack_giv l v big hS m hm hok hend
  have g2 := rpack_giv l v big hS m hm hok hend
  by_cases c : m = l.length
  · rw [if_pos c] at g1 g2
    exact ⟨_, _, by decide, by decide, g1, g2⟩
  · rw [if_neg c] at g1 g2
    exact ⟨[], 7, by decide, by decide, g1, g2⟩
theorem samplesPacks_giv (y0 : List Int) (h0 : (y0.length * 4 ≤ 140737488351232 ∧ ∀ z ∈ y0, 0 ≤ z ∧ z ≤ 4294967295)) (y1 : Int) (h1 : (-9223372036854775808 ≤ y1 ∧ y1 ≤ 9223372036854775807)) (y2 : Bool) (h2 : True) : Giv Try.prog 3 [.lst 1 (li .u32 y0), .c (.int .i64 y1), .c (.bool y2)] (.d (.c (.bool true))) := by
  have hl0 := h0.1
  refine Giv.of (out := [.c (.bool true)]) mixed c3 (Nat.le_of_ble_eq_true rfl) ?_
  simp -dsimp -implicitDefEqProofs (disch := first | omega | (simp only [List.length_append, List.length_cons, List.length_nil, List.length_take, List.length_drop]; omega)) only [a3, ↓aPre, aPost, oneW, allOne, retV, retVA, ↓reduceIte, reduceCtorEq, Nat.reduceAdd, Nat.reduceSub, Nat.reduceMul, Nat.reduceLT, Nat.reduceLeDiff, Nat.reduceEqDiff, Nat.reduceDiv, Nat.reduceMod, Nat.reducePow, Int.reduceAdd, Int.reduceSub, Int.reduceMul, Int.reduceLT, Int.reduceLE, Int.reduceEq, Int.reduceNe, Int.reducePow, Int.reduceToNat, Int.reduceNeg]
  refine call_giv lives_giv ?_
  by_cases hb : y0.length > 300
  · have hb' : (y0.length : Int) > 300 := by omega
    simp -dsimp -implicitDefEqProofs (disch := first | omega | (simp only [List.length_append, List.length_cons, List.length_nil, List.length_take, List.length_drop]; omega)) only [hb', ↓aPre, aPost, oneW, allOne, retV, retVA, ↓reduceIte, reduceCtorEq, Nat.reduceAdd, Nat.reduceSub, Nat.reduceMul, Nat.reduceLT, Nat.reduceLeDiff, Nat.reduceEqDiff, Nat.reduceDiv, Nat.reduceMod, Nat.reducePow, Int.reduceAdd, Int.reduceSub, Int.reduceMul, Int.reduceLT, Int.reduceLE, Int.reduceEq, Int.reduceNe, Int.reducePow, Int.reduceToNat, Int.reduceNeg]
    refine call_giv lives_giv ?_
    simp -dsimp -implicitDefEqProofs (disch := first | omega | (simp only [List.length_append, List.length_cons, List.length_nil, List.length_take, List.length_drop]; omega)) only [↓aPre, aPost, oneW, allOne, retV, retVA, ↓reduceIte, reduceCtorEq, Nat.reduceAdd, Nat.reduceSub, Nat.reduceMul, Nat.reduceLT, Nat.reduceLeDiff, Nat.reduceEqDiff, Nat.reduceDiv, Nat.reduceMod, Nat.reducePow, Int.reduceAdd, Int.reduceSub, Int.reduceMul, Int.reduceLT, Int.reduceLE, Int.reduceEq, Int.reduceNe, Int.reducePow, Int.reduceToNat, Int.reduceNeg]
    exact post_eq rfl
  have hb' : ¬ (y0.length : Int) > 300 := by omega
  obtain ⟨r, e, e1, e2, g1, g2⟩ := pack_all y0 y1 y2 (by omega) (fun z hz => by have := h0.2 z hz; omega) h1
  simp -dsimp -implicitDefEqProofs (disch := first | omega | (simp only [List.length_append, List.length_cons, List.length_nil, List.length_take, List.length_drop]; omega)) only [hb', ↓aPre, aPost, oneW, allOne, retV, retVA, ↓reduceIte, reduceCtorEq, Nat.reduceAdd, Nat.reduceSub, Nat.reduceMul, Nat.reduceLT, Nat.reduceLeDiff, Nat.reduceEqDiff, Nat.reduceDiv, Nat.reduceMod, Nat.reducePow, Int.reduceAdd, Int.reduceSub, Int.reduceMul, Int.reduceLT, Int.reduceLE, Int.reduceEq, Int.reduceNe, Int.reducePow, Int.reduceToNat, Int.reduceNeg]
  refine call_giv g1 ?_
  simp -dsimp -implicitDefEqProofs (disch := first | omega | (simp only [List.length_append, List.length_cons, List.length_nil, List.length_take, List.length_drop]; omega)) only [↓aPre, aPost, oneW, allOne, retV, retVA, ↓reduceIte, reduceCtorEq, Nat.reduceAdd, Nat.reduceSub, Nat.reduceMul, Nat.reduceLT, Nat.reduceLeDiff, Nat.reduceEqDiff, Nat.reduceDiv, Nat.reduceMod, Nat.reducePow, Int.reduceAdd, Int.reduceSub, Int.reduceMul, Int.reduceLT, Int.reduceLE, Int.reduceEq, Int.reduceNe, Int.reducePow, Int.reduceToNat, Int.reduceNeg]
  refine call_giv g2 ?_
  simp -dsimp -implicitDefEqProofs (disch := first | omega | (simp only [List.length_append, List.length_cons, List.length_nil, List.length_take, List.length_drop]; omega)) only [↓aPre, aPost, oneW, allOne, retV, retVA, ↓reduceIte, reduceCtorEq, Nat.reduceAdd, Nat.reduceSub, Nat.reduceMul, Nat.reduceLT, Nat.reduceLeDiff, Nat.reduceEqDiff, Nat.reduceDiv, Nat.reduceMod, Nat.reducePow, Int.reduceAdd, Int.reduceSub, Int.reduceMul, Int.reduceLT, Int.reduceLE, Int.reduceEq, Int.reduceNe, Int.reducePow, Int.reduceToNat, Int.reduceNeg]
  exact post_eq rfl
end Go.Proofs.Ytlhmhopgbkmafaa
