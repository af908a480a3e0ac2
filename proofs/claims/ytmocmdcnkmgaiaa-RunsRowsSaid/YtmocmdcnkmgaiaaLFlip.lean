/- A row whose bits are all turned: the law's walk and its plain law. No further condition. -/
import Derived.Test.YtmocmdcnkmgaiaaLNext
set_option linter.unusedSimpArgs false
set_option linter.unusedVariables false
namespace Go.Proofs.Ytmocmdcnkmgaiaa
open Go.Eng Go.RowKit
def flK (row : List Int) : Nat → List Int
  | 0 => []
  | k + 1 => flK row k ++ [255 - row.getD k 0]
theorem flK_len (row : List Int) : ∀ k, (flK row k).length = k
  | 0 => rfl
  | k + 1 => by rw [flK, List.length_append, flK_len row k]; rfl
theorem flK_get (row : List Int) : ∀ k i, i < k → (flK row k).getD i 0 = 255 - row.getD i 0
  | 0, i, h => by omega
  | k + 1, i, h => by
    rw [flK, getD_app, flK_len]
    split
    · rename_i h2; exact flK_get row k i h2
    · rw [if_pos (by omega), show i = k by omega]
theorem flK_bytes {row : List Int} (hb : Bytes row) : ∀ k, Bytes (flK row k)
  | 0 => Bytes.nil
  | k + 1 => by rw [flK]; have := hb.get k; exact (flK_bytes hb k).app (Bytes.one (by omega))
theorem xor255 : ∀ n : Fin 256, 255 ^^^ n.val = 255 - n.val := by decide +kernel
theorem not_u8 (c : Int) (h : 0 ≤ c ∧ c < 256) : bits .xor .u8 (if IntKind.signed .u8 = true then -1 else IntKind.max .u8) c = 255 - c := by
  show bits .xor .u8 255 c = 255 - c
  rw [u8_xor 255 c (by decide) (by decide) h.1 h.2, show (255 : Int).toNat = 255 from rfl]
  have := xor255 ⟨c.toNat, by omega⟩
  simp only at this
  rw [this]; omega
theorem notbit (c : Int) (j : Nat) (h : 0 ≤ c ∧ c < 256) (hj : j ≤ 7) : (255 - c) / 2 ^ j % 2 = 1 - c / 2 ^ j % 2 := by
  obtain rfl | rfl | rfl | rfl | rfl | rfl | rfl | rfl : j = 0 ∨ j = 1 ∨ j = 2 ∨ j = 3 ∨ j = 4 ∨ j = 5 ∨ j = 6 ∨ j = 7 := by omega
  all_goals simp only [Int.reducePow]; omega
theorem flip_bit {row : List Int} (hb : Bytes row) (x : Nat) (h : x < 8 * row.length) : bitB (flK row row.length) x = !bitB row x := by
  rw [bitB, bitB, flK_get _ _ _ (by omega), notbit _ _ (hb.get _) (by omega)]
  generalize row.getD (x / 8) 0 / 2 ^ (7 - x % 8) = q
  by_cases c : q % 2 = 1
  · rw [decide_eq_true c, decide_eq_false (by omega)]; rfl
  · rw [decide_eq_false c, decide_eq_true (by omega)]; rfl
theorem flip_of (r t : List Int) (n : Nat) (h : ∀ x, x < n → bitB t x = !bitB r x) (h0 : bitB r 0 = true) : ∀ k, k + 1 ≤ n → ofK r (k + 1) = 0 :: ofK t (k + 1)
  | 0, hk => by
    have := h 0 (by omega)
    rw [h0] at this
    rw [ofK, ofK, ofK, ofK, h0, this]
    rfl
  | k + 1, hk => by
    have ih := flip_of r t n h h0 k (by omega)
    have hx := h (k + 1) (by omega)
    rw [ofK, ofK.eq_2 t, hx, ih]
    simp only [List.length_cons]
    cases hb : bitB r (k + 1) with
    | true =>
      by_cases c : ((ofK t (k + 1)).length : Int) % 2 = 1
      · rw [if_neg (by simp; omega), if_neg (by simp [c])]; rfl
      · rw [if_pos (by simp; omega), if_pos (by simp [c])]
    | false =>
      by_cases c : ((ofK t (k + 1)).length : Int) % 2 = 1
      · rw [if_pos (by simp; omega), if_pos (by simp [c])]
      · rw [if_neg (by simp; omega), if_neg (by simp [c])]; rfl
theorem wrap_u64 (x : Int) : ∃ q : Nat, IntKind.u64.wrap x = q ∧ q < 18446744073709551616 := by
  refine ⟨(IntKind.u64.wrap x).toNat, ?_, ?_⟩ <;> · simp [IntKind.wrap, IntKind.signed, IntKind.bits]; try omega
theorem ofK_zero (row : List Int) (h : bitB row 0 = false) : ∀ k, 0 < (ofK row k).length → (ofK row k).getD 0 0 ≠ 0
  | 0, hk => by simp [ofK] at hk
  | k + 1, hk => by
    rw [ofK] at hk ⊢
    split at hk
    · rename_i c; rw [if_pos c]; exact ofK_zero row h k hk
    · rename_i c
      rw [if_neg c, getD_app]
      split
      · rename_i h2; exact ofK_zero row h k h2
      · rename_i h2
        rw [if_pos (by omega)]
        intro hk0
        have hk0 : k = 0 := by omega
        subst hk0
        apply c
        rw [h]; rfl
theorem eq_t (a b : List Int) (hab : a = b) (h : a.length ≤ 140737488355328) : Giv Try.prog 13 [.lst 1 (li .i64 a), .lst 1 (li .i64 b)] (retV [.c (.bool true)]) := by
  subst hab
  have := equal_giv a a h h
  rwa [decide_eq_true rfl] at this
theorem runsFlip_giv (y0 : List Int) (h0 : (y0.length * 1 ≤ 140737488351232 ∧ ∀ z ∈ y0, 0 ≤ z ∧ z ≤ 255)) (y1 : Int) (h1 : (-9223372036854775808 ≤ y1 ∧ y1 ≤ 9223372036854775807)) : Giv Try.prog 4 [.lst 1 (li .u8 y0), .c (.int .i64 y1)] (.d (.c (.bool true))) := by
  have hb : Bytes y0 := fun z hz => by have := h0.2 z hz; omega
  refine Giv.of (out := [.c (.bool true)]) mixed c4 (Nat.le_of_ble_eq_true rfl) ?_
  simp -dsimp -implicitDefEqProofs (disch := first | omega | (simp only [List.length_append, List.length_cons, List.length_nil, List.length_take, List.length_drop]; omega)) only [a4, ↓aPre, aPost, oneW, allOne, retV, retVA, ↓reduceIte, reduceCtorEq, Nat.reduceAdd, Nat.reduceSub, Nat.reduceMul, Nat.reduceLT, Nat.reduceLeDiff, Nat.reduceEqDiff, Nat.reduceDiv, Nat.reduceMod, Nat.reducePow, Int.reduceAdd, Int.reduceSub, Int.reduceMul, Int.reduceLT, Int.reduceLE, Int.reduceEq, Int.reduceNe, Int.reducePow, Int.reduceToNat, Int.reduceNeg]
  refine call_giv lives_giv ?_
  by_cases he : y0.length = 0
  · simp -dsimp -implicitDefEqProofs (disch := first | omega | (simp only [List.length_append, List.length_cons, List.length_nil, List.length_take, List.length_drop]; omega)) only [↓aPre, aPost, oneW, allOne, retV, retVA, ↓reduceIte, reduceCtorEq, Nat.reduceAdd, Nat.reduceSub, Nat.reduceMul, Nat.reduceLT, Nat.reduceLeDiff, Nat.reduceEqDiff, Nat.reduceDiv, Nat.reduceMod, Nat.reducePow, Int.reduceAdd, Int.reduceSub, Int.reduceMul, Int.reduceLT, Int.reduceLE, Int.reduceEq, Int.reduceNe, Int.reducePow, Int.reduceToNat, Int.reduceNeg]
    refine call_giv lives_giv ?_
    simp -dsimp -implicitDefEqProofs (disch := first | omega | (simp only [List.length_append, List.length_cons, List.length_nil, List.length_take, List.length_drop]; omega)) only [↓aPre, aPost, oneW, allOne, retV, retVA, ↓reduceIte, reduceCtorEq, Nat.reduceAdd, Nat.reduceSub, Nat.reduceMul, Nat.reduceLT, Nat.reduceLeDiff, Nat.reduceEqDiff, Nat.reduceDiv, Nat.reduceMod, Nat.reducePow, Int.reduceAdd, Int.reduceSub, Int.reduceMul, Int.reduceLT, Int.reduceLE, Int.reduceEq, Int.reduceNe, Int.reducePow, Int.reduceToNat, Int.reduceNeg]
    exact post_eq rfl
  by_cases hl : 100 < y0.length
  · simp -dsimp -implicitDefEqProofs (disch := first | omega | (simp only [List.length_append, List.length_cons, List.length_nil, List.length_take, List.length_drop]; omega)) only [↓aPre, aPost, oneW, allOne, retV, retVA, ↓reduceIte, reduceCtorEq, Nat.reduceAdd, Nat.reduceSub, Nat.reduceMul, Nat.reduceLT, Nat.reduceLeDiff, Nat.reduceEqDiff, Nat.reduceDiv, Nat.reduceMod, Nat.reducePow, Int.reduceAdd, Int.reduceSub, Int.reduceMul, Int.reduceLT, Int.reduceLE, Int.reduceEq, Int.reduceNe, Int.reducePow, Int.reduceToNat, Int.reduceNeg]
    refine call_giv lives_giv ?_
    simp -dsimp -implicitDefEqProofs (disch := first | omega | (simp only [List.length_append, List.length_cons, List.length_nil, List.length_take, List.length_drop]; omega)) only [↓aPre, aPost, oneW, allOne, retV, retVA, ↓reduceIte, reduceCtorEq, Nat.reduceAdd, Nat.reduceSub, Nat.reduceMul, Nat.reduceLT, Nat.reduceLeDiff, Nat.reduceEqDiff, Nat.reduceDiv, Nat.reduceMod, Nat.reducePow, Int.reduceAdd, Int.reduceSub, Int.reduceMul, Int.reduceLT, Int.reduceLE, Int.reduceEq, Int.reduceNe, Int.reducePow, Int.reduceToNat, Int.reduceNeg]
    exact post_eq rfl
  obtain ⟨q, hq, hq2⟩ := wrap_u64 y1
  obtain ⟨w, hw⟩ : ∃ w : Nat, w = q % (8 * y0.length) := ⟨_, rfl⟩
  have hw1 : (q : Int) % (8 * (y0.length : Int)) = w := by rw [hw]; simp
  have hw2 : w < 8 * y0.length := by rw [hw]; exact Nat.mod_lt _ (by omega)
  simp -dsimp -implicitDefEqProofs (disch := first | omega | (simp only [List.length_append, List.length_cons, List.length_nil, List.length_take, List.length_drop]; omega)) only [hq, hw1, ↓aPre, aPost, oneW, allOne, retV, retVA, ↓reduceIte, reduceCtorEq, Nat.reduceAdd, Nat.reduceSub, Nat.reduceMul, Nat.reduceLT, Nat.reduceLeDiff, Nat.reduceEqDiff, Nat.reduceDiv, Nat.reduceMod, Nat.reducePow, Int.reduceAdd, Int.reduceSub, Int.reduceMul, Int.reduceLT, Int.reduceLE, Int.reduceEq, Int.reduceNe, Int.reducePow, Int.reduceToNat, Int.reduceNeg]
  refine loop_nil 6 100 1 (fun s => ∃ (k : Nat), k ≤ y0.length ∧ s.tm 37 = .d (.c (.int .i64 k)) ∧ s.tm 36 = .d (.c (.int .i64 y0.length)) ∧ s.tm 35 = .d (.lst 1 (li .u8 y0)) ∧ s.tm 0 = .d (.lst 1 (li .u8 y0)) ∧ s.tm 5 = .d (.c (.int .i64 (1 + w))) ∧ s.tm 6 = .sl 100 1 0 k ∧ s.hp 100 = some (.row 1 (li .u8 (flK y0 k)))) (fun s => y0.length - (avN (s.tm 37)).toNat) ?_ (by decide) ?_ ?_
  · simp -dsimp -implicitDefEqProofs (disch := first | omega | (simp only [List.length_append, List.length_cons, List.length_nil, List.length_take, List.length_drop]; omega)) only [↓aPre, aPost, oneW, allOne, retV, retVA, ↓reduceIte, reduceCtorEq, Nat.reduceAdd, Nat.reduceSub, Nat.reduceMul, Nat.reduceLT, Nat.reduceLeDiff, Nat.reduceEqDiff, Nat.reduceDiv, Nat.reduceMod, Nat.reducePow, Int.reduceAdd, Int.reduceSub, Int.reduceMul, Int.reduceLT, Int.reduceLE, Int.reduceEq, Int.reduceNe, Int.reducePow, Int.reduceToNat, Int.reduceNeg]
  · refine ⟨0, Nat.zero_le _, ?_⟩
    simp -dsimp -implicitDefEqProofs (disch := first | omega | (simp only [List.length_append, List.length_cons, List.length_nil, List.length_take, List.length_drop]; omega)) only [flK, Int.natCast_zero, ↓aPre, aPost, oneW, allOne, retV, retVA, ↓reduceIte, reduceCtorEq, Nat.reduceAdd, Nat.reduceSub, Nat.reduceMul, Nat.reduceLT, Nat.reduceLeDiff, Nat.reduceEqDiff, Nat.reduceDiv, Nat.reduceMod, Nat.reducePow, Int.reduceAdd, Int.reduceSub, Int.reduceMul, Int.reduceLT, Int.reduceLE, Int.reduceEq, Int.reduceNe, Int.reducePow, Int.reduceToNat, Int.reduceNeg]
  rintro s ⟨k, hk, hs⟩
  have e := flK_len y0 k
  have hz := hb.get k
  by_cases hlt : k < y0.length
  · simp -dsimp -implicitDefEqProofs (disch := first | omega | (simp only [List.length_append, List.length_cons, List.length_nil, List.length_take, List.length_drop]; omega)) only [hs, e, not_u8 _ hz, ↓aPre, aPost, oneW, allOne, retV, retVA, ↓reduceIte, reduceCtorEq, Nat.reduceAdd, Nat.reduceSub, Nat.reduceMul, Nat.reduceLT, Nat.reduceLeDiff, Nat.reduceEqDiff, Nat.reduceDiv, Nat.reduceMod, Nat.reducePow, Int.reduceAdd, Int.reduceSub, Int.reduceMul, Int.reduceLT, Int.reduceLE, Int.reduceEq, Int.reduceNe, Int.reducePow, Int.reduceToNat, Int.reduceNeg]
    refine round_of ⟨k + 1, by omega, ?_⟩ ?_
    · simp -dsimp -implicitDefEqProofs (disch := first | omega | (simp only [List.length_append, List.length_cons, List.length_nil, List.length_take, List.length_drop]; omega)) only [hs, e, flK, ↓aPre, aPost, oneW, allOne, retV, retVA, ↓reduceIte, reduceCtorEq, Nat.reduceAdd, Nat.reduceSub, Nat.reduceMul, Nat.reduceLT, Nat.reduceLeDiff, Nat.reduceEqDiff, Nat.reduceDiv, Nat.reduceMod, Nat.reducePow, Int.reduceAdd, Int.reduceSub, Int.reduceMul, Int.reduceLT, Int.reduceLE, Int.reduceEq, Int.reduceNe, Int.reducePow, Int.reduceToNat, Int.reduceNeg]
    · simp -dsimp -implicitDefEqProofs (disch := first | omega | (simp only [List.length_append, List.length_cons, List.length_nil, List.length_take, List.length_drop]; omega)) only [hs, ↓aPre, aPost, oneW, allOne, retV, retVA, ↓reduceIte, reduceCtorEq, Nat.reduceAdd, Nat.reduceSub, Nat.reduceMul, Nat.reduceLT, Nat.reduceLeDiff, Nat.reduceEqDiff, Nat.reduceDiv, Nat.reduceMod, Nat.reducePow, Int.reduceAdd, Int.reduceSub, Int.reduceMul, Int.reduceLT, Int.reduceLE, Int.reduceEq, Int.reduceNe, Int.reducePow, Int.reduceToNat, Int.reduceNeg]
      omega
  obtain rfl : k = y0.length := by omega
  have eA : ofD y0 (1 + w) = [.lst 1 (li .i64 (ofK y0 (w + 1))), .c (.int .i64 0)] := by
    rw [ofD, if_neg (by omega), if_neg (by omega), show ((1 : Int) + w).toNat = w + 1 by omega]
  have eB : ofD (flK y0 y0.length) (1 + w) = [.lst 1 (li .i64 (ofK (flK y0 y0.length) (w + 1))), .c (.int .i64 0)] := by
    rw [ofD, if_neg (by omega), e, if_neg (by omega), show ((1 : Int) + w).toNat = w + 1 by omega]
  have lA := ofK_len y0 (w + 1)
  have lB := ofK_len (flK y0 y0.length) (w + 1)
  simp -dsimp -implicitDefEqProofs (disch := first | omega | (simp only [List.length_append, List.length_cons, List.length_nil, List.length_take, List.length_drop]; omega)) only [hs, ↓aPre, aPost, oneW, allOne, retV, retVA, ↓reduceIte, reduceCtorEq, Nat.reduceAdd, Nat.reduceSub, Nat.reduceMul, Nat.reduceLT, Nat.reduceLeDiff, Nat.reduceEqDiff, Nat.reduceDiv, Nat.reduceMod, Nat.reducePow, Int.reduceAdd, Int.reduceSub, Int.reduceMul, Int.reduceLT, Int.reduceLE, Int.reduceEq, Int.reduceNe, Int.reducePow, Int.reduceToNat, Int.reduceNeg]
  refine call_giv (of_giv y0 (1 + w) (by omega) hb) ?_
  simp -dsimp -implicitDefEqProofs (disch := first | omega | (simp only [List.length_append, List.length_cons, List.length_nil, List.length_take, List.length_drop]; omega)) only [hs, eA, ↓aPre, aPost, oneW, allOne, retV, retVA, ↓reduceIte, reduceCtorEq, Nat.reduceAdd, Nat.reduceSub, Nat.reduceMul, Nat.reduceLT, Nat.reduceLeDiff, Nat.reduceEqDiff, Nat.reduceDiv, Nat.reduceMod, Nat.reducePow, Int.reduceAdd, Int.reduceSub, Int.reduceMul, Int.reduceLT, Int.reduceLE, Int.reduceEq, Int.reduceNe, Int.reducePow, Int.reduceToNat, Int.reduceNeg]
  refine call_giv (of_giv (flK y0 y0.length) (1 + w) (by omega) (flK_bytes hb _)) ?_
  cases hbit : bitB y0 0 with
  | true =>
    have hf := flip_of y0 (flK y0 y0.length) (8 * y0.length) (fun x hx => flip_bit hb x hx) hbit w (by omega)
    simp -dsimp -implicitDefEqProofs (disch := first | omega | (simp only [List.length_append, List.length_cons, List.length_nil, List.length_take, List.length_drop]; omega)) only [hs, eB, hf, ↓aPre, aPost, oneW, allOne, retV, retVA, ↓reduceIte, reduceCtorEq, Nat.reduceAdd, Nat.reduceSub, Nat.reduceMul, Nat.reduceLT, Nat.reduceLeDiff, Nat.reduceEqDiff, Nat.reduceDiv, Nat.reduceMod, Nat.reducePow, Int.reduceAdd, Int.reduceSub, Int.reduceMul, Int.reduceLT, Int.reduceLE, Int.reduceEq, Int.reduceNe, Int.reducePow, Int.reduceToNat, Int.reduceNeg]
    refine call_giv (eq_t _ _ rfl (by omega)) ?_
    simp -dsimp -implicitDefEqProofs (disch := first | omega | (simp only [List.length_append, List.length_cons, List.length_nil, List.length_take, List.length_drop]; omega)) only [hs, ↓aPre, aPost, oneW, allOne, retV, retVA, ↓reduceIte, reduceCtorEq, Nat.reduceAdd, Nat.reduceSub, Nat.reduceMul, Nat.reduceLT, Nat.reduceLeDiff, Nat.reduceEqDiff, Nat.reduceDiv, Nat.reduceMod, Nat.reducePow, Int.reduceAdd, Int.reduceSub, Int.reduceMul, Int.reduceLT, Int.reduceLE, Int.reduceEq, Int.reduceNe, Int.reducePow, Int.reduceToNat, Int.reduceNeg]
    exact post_eq rfl
  | false =>
    have hf := flip_of (flK y0 y0.length) y0 (8 * y0.length) (fun x hx => by rw [flip_bit hb x hx, Bool.not_not]) (by rw [flip_bit hb 0 (by omega), hbit]; rfl) w (by omega)
    by_cases hA : 0 < (ofK y0 (w + 1)).length
    · have hne := ofK_zero y0 hbit _ hA
      simp -dsimp -implicitDefEqProofs (disch := first | omega | (simp only [List.length_append, List.length_cons, List.length_nil, List.length_take, List.length_drop]; omega)) only [hs, eB, hf, ↓aPre, aPost, oneW, allOne, retV, retVA, ↓reduceIte, reduceCtorEq, Nat.reduceAdd, Nat.reduceSub, Nat.reduceMul, Nat.reduceLT, Nat.reduceLeDiff, Nat.reduceEqDiff, Nat.reduceDiv, Nat.reduceMod, Nat.reducePow, Int.reduceAdd, Int.reduceSub, Int.reduceMul, Int.reduceLT, Int.reduceLE, Int.reduceEq, Int.reduceNe, Int.reducePow, Int.reduceToNat, Int.reduceNeg]
      refine call_giv (eq_t _ _ rfl (by omega)) ?_
      simp -dsimp -implicitDefEqProofs (disch := first | omega | (simp only [List.length_append, List.length_cons, List.length_nil, List.length_take, List.length_drop]; omega)) only [hs, ↓aPre, aPost, oneW, allOne, retV, retVA, ↓reduceIte, reduceCtorEq, Nat.reduceAdd, Nat.reduceSub, Nat.reduceMul, Nat.reduceLT, Nat.reduceLeDiff, Nat.reduceEqDiff, Nat.reduceDiv, Nat.reduceMod, Nat.reducePow, Int.reduceAdd, Int.reduceSub, Int.reduceMul, Int.reduceLT, Int.reduceLE, Int.reduceEq, Int.reduceNe, Int.reducePow, Int.reduceToNat, Int.reduceNeg]
      exact post_eq rfl
    · simp -dsimp -implicitDefEqProofs (disch := first | omega | (simp only [List.length_append, List.length_cons, List.length_nil, List.length_take, List.length_drop]; omega)) only [hs, eB, hf, ↓aPre, aPost, oneW, allOne, retV, retVA, ↓reduceIte, reduceCtorEq, Nat.reduceAdd, Nat.reduceSub, Nat.reduceMul, Nat.reduceLT, Nat.reduceLeDiff, Nat.reduceEqDiff, Nat.reduceDiv, Nat.reduceMod, Nat.reducePow, Int.reduceAdd, Int.reduceSub, Int.reduceMul, Int.reduceLT, Int.reduceLE, Int.reduceEq, Int.reduceNe, Int.reducePow, Int.reduceToNat, Int.reduceNeg]
      refine call_giv (eq_t _ _ rfl (by omega)) ?_
      simp -dsimp -implicitDefEqProofs (disch := first | omega | (simp only [List.length_append, List.length_cons, List.length_nil, List.length_take, List.length_drop]; omega)) only [hs, ↓aPre, aPost, oneW, allOne, retV, retVA, ↓reduceIte, reduceCtorEq, Nat.reduceAdd, Nat.reduceSub, Nat.reduceMul, Nat.reduceLT, Nat.reduceLeDiff, Nat.reduceEqDiff, Nat.reduceDiv, Nat.reduceMod, Nat.reducePow, Int.reduceAdd, Int.reduceSub, Int.reduceMul, Int.reduceLT, Int.reduceLE, Int.reduceEq, Int.reduceNe, Int.reducePow, Int.reduceToNat, Int.reduceNeg]
      exact post_eq rfl
end Go.Proofs.Ytmocmdcnkmgaiaa
