/- A row is that of its changes: the law's walk and its plain law. No further condition. -/
import Derived.Test.YtmocmdcnkmgaiaaWRow
import Derived.Test.YtmocmdcnkmgaiaaLOf
set_option linter.unusedSimpArgs false
set_option linter.unusedVariables false
namespace Go.Proofs.Ytmocmdcnkmgaiaa
open Go.Eng Go.RowKit
theorem by8_bits : ∀ c0 c1 c2 c3 c4 c5 c6 c7 : Bool, by8 c0 c1 c2 c3 c4 c5 c6 c7 / 128 % 2 = b2 c0 ∧ by8 c0 c1 c2 c3 c4 c5 c6 c7 / 64 % 2 = b2 c1 ∧ by8 c0 c1 c2 c3 c4 c5 c6 c7 / 32 % 2 = b2 c2 ∧ by8 c0 c1 c2 c3 c4 c5 c6 c7 / 16 % 2 = b2 c3 ∧
    by8 c0 c1 c2 c3 c4 c5 c6 c7 / 8 % 2 = b2 c4 ∧ by8 c0 c1 c2 c3 c4 c5 c6 c7 / 4 % 2 = b2 c5 ∧ by8 c0 c1 c2 c3 c4 c5 c6 c7 / 2 % 2 = b2 c6 ∧ by8 c0 c1 c2 c3 c4 c5 c6 c7 / 1 % 2 = b2 c7 := by decide +kernel
theorem byte_bit (f : Nat → Bool) (i j : Nat) (hj : j < 8) : byteB f i / 2 ^ (7 - j) % 2 = b2 (f (8 * i + j)) := by
  obtain ⟨h0, h1, h2, h3, h4, h5, h6, h7⟩ := by8_bits (f (8 * i)) (f (8 * i + 1)) (f (8 * i + 2)) (f (8 * i + 3)) (f (8 * i + 4)) (f (8 * i + 5)) (f (8 * i + 6)) (f (8 * i + 7))
  obtain rfl | rfl | rfl | rfl | rfl | rfl | rfl | rfl : j = 0 ∨ j = 1 ∨ j = 2 ∨ j = 3 ∨ j = 4 ∨ j = 5 ∨ j = 6 ∨ j = 7 := by omega
  · exact h0
  · exact h1
  · exact h2
  · exact h3
  · exact h4
  · exact h5
  · exact h6
  · exact h7
theorem pack_bit (f : Nat → Bool) (n x : Nat) (h : x < 8 * n) : (packK f n).getD (x / 8) 0 / 2 ^ (7 - x % 8) % 2 = (b2 (f x) : Int) := by
  rw [packK_get f n _ (by omega)]
  have := byte_bit f (x / 8) (x % 8) (by omega)
  rw [show 8 * (x / 8) + x % 8 = x by omega] at this
  rw [← this]
  simp
theorem bitE {l : List Int} (hb : Bytes l) (x : Nat) : bits .and .u8 ((l.getD (x / 8) 0).fdiv (2 ^ min (7 - (x : Int) % 8).toNat IntKind.u8.bits)) 1 = l.getD (x / 8) 0 / 2 ^ (7 - x % 8) % 2 := by
  have hz := hb.get (x / 8)
  have e2 : min (7 - (x : Int) % 8).toNat IntKind.u8.bits = 7 - x % 8 := by simp [IntKind.bits]; omega
  have hq : 0 ≤ l.getD (x / 8) 0 / 2 ^ (7 - x % 8) ∧ l.getD (x / 8) 0 / 2 ^ (7 - x % 8) < 256 :=
    ⟨Int.ediv_nonneg hz.1 (Int.pow_nonneg (by omega)), Int.lt_of_le_of_lt (Int.ediv_le_self _ hz.1) hz.2⟩
  rw [e2, Int.fdiv_eq_ediv_of_nonneg _ (Int.pow_nonneg (by omega)), and1 _ hq.1 hq.2]
theorem rightW_snoc {w z : Int} : ∀ (l : List Int) (y : Int), rightW w l y = true → (∀ x ∈ l, x < z) → y < z → z < w → rightW w (l ++ [z]) y = true
  | [], y, _, _, h1, h2 => by simp [rightW, h1, h2]
  | x :: l, y, h, hx, h1, h2 => by
    simp only [rightW, Bool.and_eq_true] at h
    rw [List.cons_append, rightW, h.1, Bool.true_and]
    exact rightW_snoc l x h.2 (fun x hx' => hx x (by simp [hx'])) (hx x (by simp)) h2
theorem ofK_right (row : List Int) (w : Nat) : ∀ k, k ≤ w → rightW w (ofK row k) (-1) = true ∧ ∀ z ∈ ofK row k, z < (k : Int)
  | 0, _ => ⟨rfl, by simp [ofK]⟩
  | k + 1, hk => by
    obtain ⟨h1, h2⟩ := ofK_right row w k (by omega)
    rw [ofK]
    split
    · exact ⟨h1, fun z hz => by have := h2 z hz; omega⟩
    · refine ⟨rightW_snoc _ _ h1 h2 (by omega) (by omega), fun z hz => ?_⟩
      rcases List.mem_append.1 hz with hz | hz
      · have := h2 z hz; omega
      · have := List.mem_singleton.1 hz; omega
theorem getD_app1 (l : List Int) (x : Int) (i : Nat) (h : i < l.length) : (l ++ [x]).getD i 0 = l.getD i 0 := by rw [getD_app, if_pos h]
theorem getD_app2 (l : List Int) (x : Int) : (l ++ [x]).getD l.length 0 = x := by rw [getD_app, if_neg (Nat.lt_irrefl _), if_pos rfl]
theorem cnt_app (l : List Int) (z x : Int) : ∀ k, k ≤ l.length → cnt (l ++ [z]) x k = cnt l x k
  | 0, _ => rfl
  | k + 1, hk => by
    rw [cnt, cnt, cnt_app l z x k (by omega), getD_app1 _ _ _ (by omega)]
theorem cnt_of (row : List Int) (x : Nat) : ∀ k, cnt (ofK row k) (x : Int) (ofK row k).length = (ofK row (min k (x + 1))).length
  | 0 => by rw [Nat.zero_min]; rfl
  | k + 1 => by
    have ih := cnt_of row x k
    by_cases c : bitB row k = decide (((ofK row k).length : Int) % 2 = 1)
    · rw [show ofK row (k + 1) = ofK row k by rw [ofK, if_pos c], ih]
      by_cases hx : k ≤ x
      · rw [show min k (x + 1) = k by omega, show min (k + 1) (x + 1) = k + 1 by omega, ofK, if_pos c]
      · rw [show min k (x + 1) = x + 1 by omega, show min (k + 1) (x + 1) = x + 1 by omega]
    · rw [show ofK row (k + 1) = ofK row k ++ [(k : Int)] by rw [ofK, if_neg c], List.length_append, List.length_singleton, cnt, cnt_app _ _ _ _ (Nat.le_refl _), ih, getD_app2]
      by_cases hx : k ≤ x
      · rw [show min k (x + 1) = k by omega, show min (k + 1) (x + 1) = k + 1 by omega, ofK, if_neg c, if_pos (by omega)]; simp
      · rw [show min k (x + 1) = x + 1 by omega, show min (k + 1) (x + 1) = x + 1 by omega, if_neg (by omega)]; rfl
theorem ofK_par (row : List Int) (x : Nat) : decide ((ofK row (x + 1)).length % 2 = 1) = bitB row x := by
  rw [ofK]
  cases hb : bitB row x with
  | true =>
    by_cases c : ((ofK row x).length : Int) % 2 = 1
    · rw [if_pos (by simp [c]), decide_eq_true (by omega)]
    · rw [if_neg (by simp [c]), decide_eq_true (by simp; omega)]
  | false =>
    by_cases c : ((ofK row x).length : Int) % 2 = 1
    · rw [if_neg (by simp [c]), decide_eq_false (by simp; omega)]
    · rw [if_pos (by simp [c]), decide_eq_false (by omega)]
theorem pix_of (row : List Int) (w x : Nat) : pixK (ofK row w) w (ofK row w).length x = (bitB row x && decide (x < w)) := by
  unfold pixK
  rw [Nat.min_self, cnt_of, show decide ((x : Int) < (w : Int)) = decide (x < w) by rw [decide_eq_decide]; omega]
  by_cases c : x < w
  · rw [show min w (x + 1) = x + 1 by omega, ofK_par]
  · rw [decide_eq_false c, Bool.and_false, Bool.and_false]
theorem b2_bit (row : List Int) (x : Nat) : (b2 (bitB row x) : Int) = row.getD (x / 8) 0 / 2 ^ (7 - x % 8) % 2 := by
  unfold bitB b2
  generalize row.getD (x / 8) 0 / 2 ^ (7 - x % 8) = q
  by_cases c : q % 2 = 1
  · rw [decide_eq_true c, if_pos rfl, c]; rfl
  · rw [decide_eq_false c, if_neg (by simp)]; omega
theorem runsAgain_giv (y0 : List Int) (h0 : (y0.length * 1 ≤ 140737488351232 ∧ ∀ z ∈ y0, 0 ≤ z ∧ z ≤ 255)) (y1 : Int) (h1 : (-9223372036854775808 ≤ y1 ∧ y1 ≤ 9223372036854775807)) : Giv Try.prog 6 [.lst 1 (li .u8 y0), .c (.int .i64 y1)] (.d (.c (.bool true))) := by
  have hb : Bytes y0 := fun z hz => by have := h0.2 z hz; omega
  refine Giv.of (out := [.c (.bool true)]) mixed c6 (Nat.le_of_ble_eq_true rfl) ?_
  simp -dsimp -implicitDefEqProofs (disch := first | omega | (simp only [List.length_append, List.length_cons, List.length_nil, List.length_take, List.length_drop]; omega)) only [a6, ↓aPre, aPost, oneW, allOne, retV, retVA, ↓reduceIte, reduceCtorEq, Nat.reduceAdd, Nat.reduceSub, Nat.reduceMul, Nat.reduceLT, Nat.reduceLeDiff, Nat.reduceEqDiff, Nat.reduceDiv, Nat.reduceMod, Nat.reducePow, Int.reduceAdd, Int.reduceSub, Int.reduceMul, Int.reduceLT, Int.reduceLE, Int.reduceEq, Int.reduceNe, Int.reducePow, Int.reduceToNat, Int.reduceNeg]
  refine call_giv lives_giv ?_
  by_cases hl : 200 < y0.length
  · simp -dsimp -implicitDefEqProofs (disch := first | omega | (simp only [List.length_append, List.length_cons, List.length_nil, List.length_take, List.length_drop]; omega)) only [↓aPre, aPost, oneW, allOne, retV, retVA, ↓reduceIte, reduceCtorEq, Nat.reduceAdd, Nat.reduceSub, Nat.reduceMul, Nat.reduceLT, Nat.reduceLeDiff, Nat.reduceEqDiff, Nat.reduceDiv, Nat.reduceMod, Nat.reducePow, Int.reduceAdd, Int.reduceSub, Int.reduceMul, Int.reduceLT, Int.reduceLE, Int.reduceEq, Int.reduceNe, Int.reducePow, Int.reduceToNat, Int.reduceNeg]
    refine call_giv lives_giv ?_
    simp -dsimp -implicitDefEqProofs (disch := first | omega | (simp only [List.length_append, List.length_cons, List.length_nil, List.length_take, List.length_drop]; omega)) only [↓aPre, aPost, oneW, allOne, retV, retVA, ↓reduceIte, reduceCtorEq, Nat.reduceAdd, Nat.reduceSub, Nat.reduceMul, Nat.reduceLT, Nat.reduceLeDiff, Nat.reduceEqDiff, Nat.reduceDiv, Nat.reduceMod, Nat.reducePow, Int.reduceAdd, Int.reduceSub, Int.reduceMul, Int.reduceLT, Int.reduceLE, Int.reduceEq, Int.reduceNe, Int.reducePow, Int.reduceToNat, Int.reduceNeg]
    exact post_eq rfl
  obtain ⟨q, hq, hq2⟩ := wrap_u64 y1
  obtain ⟨w, hw⟩ : ∃ w : Nat, w = q % (8 * y0.length + 1) := ⟨_, rfl⟩
  have hw1 : (q : Int) % (8 * (y0.length : Int) + 1) = w := by rw [hw]; simp
  have hw2 : w < 8 * y0.length + 1 := by rw [hw]; exact Nat.mod_lt _ (by omega)
  have eA : ofD y0 w = [.lst 1 (li .i64 (ofK y0 w)), .c (.int .i64 0)] := by
    rw [ofD, if_neg (by omega), if_neg (by omega), Int.toNat_natCast]
  have hlen := ofK_len y0 w
  have hright := (ofK_right y0 w w (Nat.le_refl _)).1
  obtain ⟨n, hn⟩ : ∃ n, n = (w + 7) / 8 := ⟨_, rfl⟩
  have en : (((w : Int) + 7) / 8) = n := by omega
  obtain ⟨f, hf⟩ : ∃ f : Nat → Bool, f = pixK (ofK y0 w) w (ofK y0 w).length := ⟨_, rfl⟩
  have eB : rowD (ofK y0 w) w = [.lst 1 (li .u8 (packK f n)), .c (.int .i64 0)] := by
    rw [rowD, if_neg (by rintro (h | h | h) <;> first | omega | (rw [hright] at h; cases h)), Int.toNat_natCast, ← hn, ← hf]
  have el := packK_len f n
  simp -dsimp -implicitDefEqProofs (disch := first | omega | (simp only [List.length_append, List.length_cons, List.length_nil, List.length_take, List.length_drop]; omega)) only [hq, hw1, ↓aPre, aPost, oneW, allOne, retV, retVA, ↓reduceIte, reduceCtorEq, Nat.reduceAdd, Nat.reduceSub, Nat.reduceMul, Nat.reduceLT, Nat.reduceLeDiff, Nat.reduceEqDiff, Nat.reduceDiv, Nat.reduceMod, Nat.reducePow, Int.reduceAdd, Int.reduceSub, Int.reduceMul, Int.reduceLT, Int.reduceLE, Int.reduceEq, Int.reduceNe, Int.reducePow, Int.reduceToNat, Int.reduceNeg]
  refine call_giv (of_giv y0 w (by omega) hb) ?_
  simp -dsimp -implicitDefEqProofs (disch := first | omega | (simp only [List.length_append, List.length_cons, List.length_nil, List.length_take, List.length_drop]; omega)) only [eA, ↓aPre, aPost, oneW, allOne, retV, retVA, ↓reduceIte, reduceCtorEq, Nat.reduceAdd, Nat.reduceSub, Nat.reduceMul, Nat.reduceLT, Nat.reduceLeDiff, Nat.reduceEqDiff, Nat.reduceDiv, Nat.reduceMod, Nat.reducePow, Int.reduceAdd, Int.reduceSub, Int.reduceMul, Int.reduceLT, Int.reduceLE, Int.reduceEq, Int.reduceNe, Int.reducePow, Int.reduceToNat, Int.reduceNeg]
  refine call_giv (row_giv (ofK y0 w) w (by omega)) ?_
  simp -dsimp -implicitDefEqProofs (disch := first | omega | (simp only [List.length_append, List.length_cons, List.length_nil, List.length_take, List.length_drop]; omega)) only [eB, en, el, ↓aPre, aPost, oneW, allOne, retV, retVA, ↓reduceIte, reduceCtorEq, Nat.reduceAdd, Nat.reduceSub, Nat.reduceMul, Nat.reduceLT, Nat.reduceLeDiff, Nat.reduceEqDiff, Nat.reduceDiv, Nat.reduceMod, Nat.reducePow, Int.reduceAdd, Int.reduceSub, Int.reduceMul, Int.reduceLT, Int.reduceLE, Int.reduceEq, Int.reduceNe, Int.reducePow, Int.reduceToNat, Int.reduceNeg]
  refine call_giv (right_giv (ofK y0 w) w (by omega)) ?_
  simp -dsimp -implicitDefEqProofs (disch := first | omega | (simp only [List.length_append, List.length_cons, List.length_nil, List.length_take, List.length_drop]; omega)) only [hright, eB, el, ↓aPre, aPost, oneW, allOne, retV, retVA, ↓reduceIte, reduceCtorEq, Nat.reduceAdd, Nat.reduceSub, Nat.reduceMul, Nat.reduceLT, Nat.reduceLeDiff, Nat.reduceEqDiff, Nat.reduceDiv, Nat.reduceMod, Nat.reducePow, Int.reduceAdd, Int.reduceSub, Int.reduceMul, Int.reduceLT, Int.reduceLE, Int.reduceEq, Int.reduceNe, Int.reducePow, Int.reduceToNat, Int.reduceNeg]
  refine loop_of (fun s => ∃ (x : Nat), x ≤ 8 * n ∧ s.tm 64 = .d (.c (.int .i64 x)) ∧ s.tm 63 = .d (.c (.int .i64 (8 * n))) ∧ s.tm 0 = .d (.lst 1 (li .u8 y0)) ∧ s.tm 5 = .d (.c (.int .i64 w)) ∧ s.tm 8 = .d (.lst 1 (li .u8 (packK f n)))) (fun s => 8 * n - (avN (s.tm 64)).toNat) ?_ ?_
  · refine ⟨0, Nat.zero_le _, ?_⟩
    simp -dsimp -implicitDefEqProofs (disch := first | omega | (simp only [List.length_append, List.length_cons, List.length_nil, List.length_take, List.length_drop]; omega)) only [Int.natCast_zero, ↓aPre, aPost, oneW, allOne, retV, retVA, ↓reduceIte, reduceCtorEq, Nat.reduceAdd, Nat.reduceSub, Nat.reduceMul, Nat.reduceLT, Nat.reduceLeDiff, Nat.reduceEqDiff, Nat.reduceDiv, Nat.reduceMod, Nat.reducePow, Int.reduceAdd, Int.reduceSub, Int.reduceMul, Int.reduceLT, Int.reduceLE, Int.reduceEq, Int.reduceNe, Int.reducePow, Int.reduceToNat, Int.reduceNeg]
  rintro s ⟨x, hx, hs⟩
  by_cases hlt : x < 8 * n
  · have e1 : ((x : Int) / 8).toNat = x / 8 := by omega
    have g1 := bitE hb x
    have g2 := bitE (packK_bytes f n) x
    rw [pack_bit f n x hlt, hf, pix_of] at g2
    rw [← b2_bit] at g1
    rw [← hf] at g2
    by_cases c : x < w
    · rw [decide_eq_true c, Bool.and_true] at g2
      simp -dsimp -implicitDefEqProofs (disch := first | omega | (simp only [List.length_append, List.length_cons, List.length_nil, List.length_take, List.length_drop]; omega)) only [hs, e1, g1, g2, el, ↓aPre, aPost, oneW, allOne, retV, retVA, ↓reduceIte, reduceCtorEq, Nat.reduceAdd, Nat.reduceSub, Nat.reduceMul, Nat.reduceLT, Nat.reduceLeDiff, Nat.reduceEqDiff, Nat.reduceDiv, Nat.reduceMod, Nat.reducePow, Int.reduceAdd, Int.reduceSub, Int.reduceMul, Int.reduceLT, Int.reduceLE, Int.reduceEq, Int.reduceNe, Int.reducePow, Int.reduceToNat, Int.reduceNeg]
      refine round_of ⟨x + 1, by omega, ?_⟩ ?_
      · simp -dsimp -implicitDefEqProofs (disch := first | omega | (simp only [List.length_append, List.length_cons, List.length_nil, List.length_take, List.length_drop]; omega)) only [hs, ↓aPre, aPost, oneW, allOne, retV, retVA, ↓reduceIte, reduceCtorEq, Nat.reduceAdd, Nat.reduceSub, Nat.reduceMul, Nat.reduceLT, Nat.reduceLeDiff, Nat.reduceEqDiff, Nat.reduceDiv, Nat.reduceMod, Nat.reducePow, Int.reduceAdd, Int.reduceSub, Int.reduceMul, Int.reduceLT, Int.reduceLE, Int.reduceEq, Int.reduceNe, Int.reducePow, Int.reduceToNat, Int.reduceNeg]
      · simp -dsimp -implicitDefEqProofs (disch := first | omega | (simp only [List.length_append, List.length_cons, List.length_nil, List.length_take, List.length_drop]; omega)) only [hs, ↓aPre, aPost, oneW, allOne, retV, retVA, ↓reduceIte, reduceCtorEq, Nat.reduceAdd, Nat.reduceSub, Nat.reduceMul, Nat.reduceLT, Nat.reduceLeDiff, Nat.reduceEqDiff, Nat.reduceDiv, Nat.reduceMod, Nat.reducePow, Int.reduceAdd, Int.reduceSub, Int.reduceMul, Int.reduceLT, Int.reduceLE, Int.reduceEq, Int.reduceNe, Int.reducePow, Int.reduceToNat, Int.reduceNeg]
        omega
    · rw [decide_eq_false c, Bool.and_false] at g2
      simp -dsimp -implicitDefEqProofs (disch := first | omega | (simp only [List.length_append, List.length_cons, List.length_nil, List.length_take, List.length_drop]; omega)) only [hs, e1, g1, g2, el, b2, ↓aPre, aPost, oneW, allOne, retV, retVA, ↓reduceIte, reduceCtorEq, Nat.reduceAdd, Nat.reduceSub, Nat.reduceMul, Nat.reduceLT, Nat.reduceLeDiff, Nat.reduceEqDiff, Nat.reduceDiv, Nat.reduceMod, Nat.reducePow, Int.reduceAdd, Int.reduceSub, Int.reduceMul, Int.reduceLT, Int.reduceLE, Int.reduceEq, Int.reduceNe, Int.reducePow, Int.reduceToNat, Int.reduceNeg]
      refine round_of ⟨x + 1, by omega, ?_⟩ ?_
      · simp -dsimp -implicitDefEqProofs (disch := first | omega | (simp only [List.length_append, List.length_cons, List.length_nil, List.length_take, List.length_drop]; omega)) only [hs, ↓aPre, aPost, oneW, allOne, retV, retVA, ↓reduceIte, reduceCtorEq, Nat.reduceAdd, Nat.reduceSub, Nat.reduceMul, Nat.reduceLT, Nat.reduceLeDiff, Nat.reduceEqDiff, Nat.reduceDiv, Nat.reduceMod, Nat.reducePow, Int.reduceAdd, Int.reduceSub, Int.reduceMul, Int.reduceLT, Int.reduceLE, Int.reduceEq, Int.reduceNe, Int.reducePow, Int.reduceToNat, Int.reduceNeg]
      · simp -dsimp -implicitDefEqProofs (disch := first | omega | (simp only [List.length_append, List.length_cons, List.length_nil, List.length_take, List.length_drop]; omega)) only [hs, ↓aPre, aPost, oneW, allOne, retV, retVA, ↓reduceIte, reduceCtorEq, Nat.reduceAdd, Nat.reduceSub, Nat.reduceMul, Nat.reduceLT, Nat.reduceLeDiff, Nat.reduceEqDiff, Nat.reduceDiv, Nat.reduceMod, Nat.reducePow, Int.reduceAdd, Int.reduceSub, Int.reduceMul, Int.reduceLT, Int.reduceLE, Int.reduceEq, Int.reduceNe, Int.reducePow, Int.reduceToNat, Int.reduceNeg]
        omega
  · simp -dsimp -implicitDefEqProofs (disch := first | omega | (simp only [List.length_append, List.length_cons, List.length_nil, List.length_take, List.length_drop]; omega)) only [hs, ↓aPre, aPost, oneW, allOne, retV, retVA, ↓reduceIte, reduceCtorEq, Nat.reduceAdd, Nat.reduceSub, Nat.reduceMul, Nat.reduceLT, Nat.reduceLeDiff, Nat.reduceEqDiff, Nat.reduceDiv, Nat.reduceMod, Nat.reducePow, Int.reduceAdd, Int.reduceSub, Int.reduceMul, Int.reduceLT, Int.reduceLE, Int.reduceEq, Int.reduceNe, Int.reducePow, Int.reduceToNat, Int.reduceNeg]
    exact post_eq rfl
end Go.Proofs.Ytmocmdcnkmgaiaa
