/- A sample of so many bits as one of eight; parts to the nearest. No condition but what each says. -/
import Derived.Test.YtdhcbaeglfdflaaWF
set_option linter.unusedSimpArgs false
set_option linter.unusedVariables false
set_option maxRecDepth 8000
set_option maxHeartbeats 4000000
namespace Go.Proofs.Ytdhcbaeglfdflaa
open Go.Eng Go.RowKit
/-- a part to the nearest -/
def nr (a b : Int) : Int := (2 * a + b) / (2 * b)
theorem near_giv (a b : Int) (ha : 0 ≤ a ∧ a ≤ 2305843009213693952) (hb : 0 < b ∧ b ≤ 4294967296) : Giv Try.prog 17 [.c (.int .i64 a), .c (.int .i64 b)] (retV [.c (.int .i64 (nr a b))]) := by
  refine Giv.of mixed c17 (Nat.le_of_ble_eq_true rfl) ?_
  obtain ⟨q, hq⟩ : ∃ q, q = a / b := ⟨_, rfl⟩
  obtain ⟨p, hp⟩ : ∃ p, p = q * b := ⟨_, rfl⟩
  have h1 : p ≤ a := by rw [hp, hq]; exact Int.ediv_mul_le a (by omega)
  have h2 : a < p + b := by
    have := Int.lt_ediv_add_one_mul_self a hb.1
    rw [Int.add_mul, Int.one_mul, ← hq, ← hp] at this
    exact this
  have hq0 : 0 ≤ q := by rw [hq]; exact Int.ediv_nonneg ha.1 (by omega)
  have hqa : q ≤ a := by rw [hq]; exact Int.ediv_le_self _ ha.1
  have hp0 : 0 ≤ p := by rw [hp]; exact Int.mul_nonneg hq0 (by omega)
  have ht : a.tdiv b = q := by rw [hq]; exact Int.tdiv_eq_ediv_of_nonneg ha.1
  have hb0 : ¬ b = 0 := by omega
  by_cases hc : 2 * (a - p) ≥ b
  · have e : nr a b = q + 1 := by
      unfold nr
      rw [Int.ediv_eq_iff_of_pos (by omega)]
      have : (q + 1) * (2 * b) = 2 * p + 2 * b := by rw [hp, Int.add_mul, Int.one_mul, Int.mul_comm 2 b, ← Int.mul_assoc]; omega
      omega
    simp -dsimp -implicitDefEqProofs (disch := first | omega | (simp only [List.length_append, List.length_cons, List.length_nil, List.length_take, List.length_drop]; omega)) only [a17, hb0, ht, ← hp, hc, ↓aPre, aPost, oneW, allOne, retV, retVA, ↓reduceIte, reduceCtorEq, Nat.reduceAdd, Nat.reduceSub, Nat.reduceMul, Nat.reduceLT, Nat.reduceLeDiff, Nat.reduceEqDiff, Nat.reduceDiv, Nat.reduceMod, Nat.reducePow, Int.reduceAdd, Int.reduceSub, Int.reduceMul, Int.reduceLT, Int.reduceLE, Int.reduceEq, Int.reduceNe, Int.reducePow, Int.reduceToNat, Int.reduceNeg]
    exact post_eq (by rw [e])
  · have e : nr a b = q := by
      unfold nr
      rw [Int.ediv_eq_iff_of_pos (by omega)]
      have : q * (2 * b) = 2 * p := by rw [hp, Int.mul_comm 2 b, ← Int.mul_assoc]; omega
      omega
    simp -dsimp -implicitDefEqProofs (disch := first | omega | (simp only [List.length_append, List.length_cons, List.length_nil, List.length_take, List.length_drop]; omega)) only [a17, hb0, ht, ← hp, hc, ↓aPre, aPost, oneW, allOne, retV, retVA, ↓reduceIte, reduceCtorEq, Nat.reduceAdd, Nat.reduceSub, Nat.reduceMul, Nat.reduceLT, Nat.reduceLeDiff, Nat.reduceEqDiff, Nat.reduceDiv, Nat.reduceMod, Nat.reducePow, Int.reduceAdd, Int.reduceSub, Int.reduceMul, Int.reduceLT, Int.reduceLE, Int.reduceEq, Int.reduceNe, Int.reducePow, Int.reduceToNat, Int.reduceNeg]
    exact post_eq (by rw [e])
def topW (w : Int) : Int := 2 ^ w.toNat - 1
def scE (v w : Int) : Int := if w < 1 ∨ w > 32 then 1 else if v > topW w then 7 else 0
def scV (v w : Int) : Int := if scE v w = 0 then nr (255 * v) (topW w) else 0
theorem topW_b {w : Int} (h : 1 ≤ w ∧ w ≤ 32) : ∃ t : Int, (2 : Int) ^ w.toNat = t ∧ 2 ≤ t ∧ t ≤ 4294967296 ∧ topW w = t - 1 ∧ min w.toNat IntKind.u64.bits = w.toNat ∧ min w.toNat IntKind.i64.bits = w.toNat := by
  obtain ⟨n, rfl⟩ := Int.eq_ofNat_of_zero_le (show 0 ≤ w by omega)
  have e : (2 : Int) ^ ((n : Int)).toNat = ((2 ^ n : Nat) : Int) := by rw [Int.toNat_natCast, Int.natCast_pow]; rfl
  refine ⟨_, rfl, ?_, ?_, rfl, by simp [IntKind.bits]; omega, by simp [IntKind.bits]; omega⟩
  · rw [e]
    have := Nat.pow_le_pow_right (show 0 < 2 by decide) (show 1 ≤ n by omega)
    omega
  · rw [e]
    have := Nat.pow_le_pow_right (show 0 < 2 by decide) (show n ≤ 32 by omega)
    omega
theorem scale_giv (v w : Int) (hv : 0 ≤ v ∧ v < 4294967296) (hw : -9223372036854775808 ≤ w ∧ w ≤ 9223372036854775807) : Giv Try.prog 8 [.c (.int .u32 v), .c (.int .i64 w)] (retV [.c (.int .u8 (scV v w)), .c (.int .i64 (scE v w))]) := by
  refine Giv.of mixed c8 (Nat.le_of_ble_eq_true rfl) ?_
  by_cases h1 : w < 1
  · have e : scE v w = 1 := if_pos (.inl h1)
    have e2 : scV v w = 0 := if_neg (by rw [e]; decide)
    simp -dsimp -implicitDefEqProofs (disch := first | omega | (simp only [List.length_append, List.length_cons, List.length_nil, List.length_take, List.length_drop]; omega)) only [a8, h1, ↓aPre, aPost, oneW, allOne, retV, retVA, ↓reduceIte, reduceCtorEq, Nat.reduceAdd, Nat.reduceSub, Nat.reduceMul, Nat.reduceLT, Nat.reduceLeDiff, Nat.reduceEqDiff, Nat.reduceDiv, Nat.reduceMod, Nat.reducePow, Int.reduceAdd, Int.reduceSub, Int.reduceMul, Int.reduceLT, Int.reduceLE, Int.reduceEq, Int.reduceNe, Int.reducePow, Int.reduceToNat, Int.reduceNeg]
    exact post_eq (by rw [e, e2])
  by_cases h2 : w > 32
  · have e : scE v w = 1 := if_pos (.inr h2)
    have e2 : scV v w = 0 := if_neg (by rw [e]; decide)
    simp -dsimp -implicitDefEqProofs (disch := first | omega | (simp only [List.length_append, List.length_cons, List.length_nil, List.length_take, List.length_drop]; omega)) only [a8, h1, h2, ↓aPre, aPost, oneW, allOne, retV, retVA, ↓reduceIte, reduceCtorEq, Nat.reduceAdd, Nat.reduceSub, Nat.reduceMul, Nat.reduceLT, Nat.reduceLeDiff, Nat.reduceEqDiff, Nat.reduceDiv, Nat.reduceMod, Nat.reducePow, Int.reduceAdd, Int.reduceSub, Int.reduceMul, Int.reduceLT, Int.reduceLE, Int.reduceEq, Int.reduceNe, Int.reducePow, Int.reduceToNat, Int.reduceNeg]
    exact post_eq (by rw [e, e2])
  obtain ⟨t, t1, t2, t3, t4, t5, t6⟩ := topW_b (w := w) (by omega)
  have hnn : ¬ (w < 1 ∨ w > 32) := by omega
  have hw0 : 0 ≤ w := by omega
  by_cases h3 : v > t - 1
  · have e : scE v w = 7 := by rw [scE, if_neg hnn, t4, if_pos h3]
    have e2 : scV v w = 0 := if_neg (by rw [e]; decide)
    simp -dsimp -implicitDefEqProofs (disch := first | omega | (simp only [List.length_append, List.length_cons, List.length_nil, List.length_take, List.length_drop]; omega)) only [a8, h1, h2, t5, t1, Int.one_mul, h3, ↓aPre, aPost, oneW, allOne, retV, retVA, ↓reduceIte, reduceCtorEq, Nat.reduceAdd, Nat.reduceSub, Nat.reduceMul, Nat.reduceLT, Nat.reduceLeDiff, Nat.reduceEqDiff, Nat.reduceDiv, Nat.reduceMod, Nat.reducePow, Int.reduceAdd, Int.reduceSub, Int.reduceMul, Int.reduceLT, Int.reduceLE, Int.reduceEq, Int.reduceNe, Int.reducePow, Int.reduceToNat, Int.reduceNeg]
    exact post_eq (by rw [e, e2])
  · have e : scE v w = 0 := by rw [scE, if_neg hnn, t4, if_neg h3]
    have e2 : scV v w = (510 * v + (t - 1)) / (2 * (t - 1)) := by
      rw [scV, if_pos e, t4, nr]
      congr 1
      omega
    have ht0 : ¬ 2 * (t - 1) = 0 := by omega
    have e3 : (v * 510 + (t - 1)).tdiv (2 * (t - 1)) = (510 * v + (t - 1)) / (2 * (t - 1)) := by rw [Int.tdiv_eq_ediv_of_nonneg (by omega), Int.mul_comm v]
    have hb : 0 ≤ (510 * v + (t - 1)) / (2 * (t - 1)) ∧ (510 * v + (t - 1)) / (2 * (t - 1)) ≤ 255 := by
      refine ⟨Int.ediv_nonneg (by omega) (by omega), ?_⟩
      have := Int.ediv_lt_of_lt_mul (show 0 < 2 * (t - 1) by omega) (show 510 * v + (t - 1) < 256 * (2 * (t - 1)) by omega)
      omega
    obtain ⟨q, hq⟩ : ∃ q, q = (510 * v + (t - 1)) / (2 * (t - 1)) := ⟨_, rfl⟩
    rw [← hq] at e2 e3 hb
    simp -dsimp -implicitDefEqProofs (disch := first | omega | (simp only [List.length_append, List.length_cons, List.length_nil, List.length_take, List.length_drop]; omega)) only [a8, h1, h2, t5, t1, Int.one_mul, h3, ht0, e3, ↓aPre, aPost, oneW, allOne, retV, retVA, ↓reduceIte, reduceCtorEq, Nat.reduceAdd, Nat.reduceSub, Nat.reduceMul, Nat.reduceLT, Nat.reduceLeDiff, Nat.reduceEqDiff, Nat.reduceDiv, Nat.reduceMod, Nat.reducePow, Int.reduceAdd, Int.reduceSub, Int.reduceMul, Int.reduceLT, Int.reduceLE, Int.reduceEq, Int.reduceNe, Int.reducePow, Int.reduceToNat, Int.reduceNeg]
    exact post_eq (by rw [e, e2])
theorem scV_b (v w : Int) (hv : 0 ≤ v) : 0 ≤ scV v w ∧ scV v w ≤ 255 := by
  unfold scV
  split
  · rename_i h
    unfold scE at h
    split at h
    · cases h
    · rename_i hn
      split at h
      · cases h
      · rename_i h3
        obtain ⟨t, t1, t2, t3, t4, t5, t6⟩ := topW_b (w := w) (by omega)
        rw [t4] at h3 ⊢
        unfold nr
        refine ⟨Int.ediv_nonneg (by omega) (by omega), ?_⟩
        have := Int.ediv_lt_of_lt_mul (show 0 < 2 * (t - 1) by omega) (show 2 * (255 * v) + (t - 1) < 256 * (2 * (t - 1)) by omega)
        omega
  · decide
theorem rscale_giv (v w : Int) (hv : 0 ≤ v ∧ v < 4294967296) (hw : -9223372036854775808 ≤ w ∧ w ≤ 9223372036854775807) : Giv Try.prog 9 [.c (.int .i64 v), .c (.int .i64 w)] (retV [.c (.int .i64 (scV v w)), .c (.int .i64 (scE v w))]) := by
  refine Giv.of mixed c9 (Nat.le_of_ble_eq_true rfl) ?_
  by_cases h1 : w < 1
  · have e : scE v w = 1 := if_pos (.inl h1)
    have e2 : scV v w = 0 := if_neg (by rw [e]; decide)
    simp -dsimp -implicitDefEqProofs (disch := first | omega | (simp only [List.length_append, List.length_cons, List.length_nil, List.length_take, List.length_drop]; omega)) only [a9, h1, ↓aPre, aPost, oneW, allOne, retV, retVA, ↓reduceIte, reduceCtorEq, Nat.reduceAdd, Nat.reduceSub, Nat.reduceMul, Nat.reduceLT, Nat.reduceLeDiff, Nat.reduceEqDiff, Nat.reduceDiv, Nat.reduceMod, Nat.reducePow, Int.reduceAdd, Int.reduceSub, Int.reduceMul, Int.reduceLT, Int.reduceLE, Int.reduceEq, Int.reduceNe, Int.reducePow, Int.reduceToNat, Int.reduceNeg]
    exact post_eq (by rw [e, e2])
  by_cases h2 : w > 32
  · have e : scE v w = 1 := if_pos (.inr h2)
    have e2 : scV v w = 0 := if_neg (by rw [e]; decide)
    simp -dsimp -implicitDefEqProofs (disch := first | omega | (simp only [List.length_append, List.length_cons, List.length_nil, List.length_take, List.length_drop]; omega)) only [a9, h1, h2, ↓aPre, aPost, oneW, allOne, retV, retVA, ↓reduceIte, reduceCtorEq, Nat.reduceAdd, Nat.reduceSub, Nat.reduceMul, Nat.reduceLT, Nat.reduceLeDiff, Nat.reduceEqDiff, Nat.reduceDiv, Nat.reduceMod, Nat.reducePow, Int.reduceAdd, Int.reduceSub, Int.reduceMul, Int.reduceLT, Int.reduceLE, Int.reduceEq, Int.reduceNe, Int.reducePow, Int.reduceToNat, Int.reduceNeg]
    exact post_eq (by rw [e, e2])
  obtain ⟨t, t1, t2, t3, t4, t5, t6⟩ := topW_b (w := w) (by omega)
  have hnn : ¬ (w < 1 ∨ w > 32) := by omega
  by_cases h3 : v > t - 1
  · have e : scE v w = 7 := by rw [scE, if_neg hnn, t4, if_pos h3]
    have e2 : scV v w = 0 := if_neg (by rw [e]; decide)
    simp -dsimp -implicitDefEqProofs (disch := first | omega | (simp only [List.length_append, List.length_cons, List.length_nil, List.length_take, List.length_drop]; omega)) only [a9, h1, h2, t6, t1, Int.one_mul, h3, ↓aPre, aPost, oneW, allOne, retV, retVA, ↓reduceIte, reduceCtorEq, Nat.reduceAdd, Nat.reduceSub, Nat.reduceMul, Nat.reduceLT, Nat.reduceLeDiff, Nat.reduceEqDiff, Nat.reduceDiv, Nat.reduceMod, Nat.reducePow, Int.reduceAdd, Int.reduceSub, Int.reduceMul, Int.reduceLT, Int.reduceLE, Int.reduceEq, Int.reduceNe, Int.reducePow, Int.reduceToNat, Int.reduceNeg]
    exact post_eq (by rw [e, e2])
  · have e : scE v w = 0 := by rw [scE, if_neg hnn, t4, if_neg h3]
    have e2 : scV v w = nr (255 * v) (t - 1) := by rw [scV, if_pos e, t4]
    simp -dsimp -implicitDefEqProofs (disch := first | omega | (simp only [List.length_append, List.length_cons, List.length_nil, List.length_take, List.length_drop]; omega)) only [a9, h1, h2, t6, t1, Int.one_mul, h3, ↓aPre, aPost, oneW, allOne, retV, retVA, ↓reduceIte, reduceCtorEq, Nat.reduceAdd, Nat.reduceSub, Nat.reduceMul, Nat.reduceLT, Nat.reduceLeDiff, Nat.reduceEqDiff, Nat.reduceDiv, Nat.reduceMod, Nat.reducePow, Int.reduceAdd, Int.reduceSub, Int.reduceMul, Int.reduceLT, Int.reduceLE, Int.reduceEq, Int.reduceNe, Int.reducePow, Int.reduceToNat, Int.reduceNeg]
    refine call_giv (near_giv _ _ (by omega) (by omega)) ?_
    simp -dsimp -implicitDefEqProofs (disch := first | omega | (simp only [List.length_append, List.length_cons, List.length_nil, List.length_take, List.length_drop]; omega)) only [↓aPre, aPost, oneW, allOne, retV, retVA, ↓reduceIte, reduceCtorEq, Nat.reduceAdd, Nat.reduceSub, Nat.reduceMul, Nat.reduceLT, Nat.reduceLeDiff, Nat.reduceEqDiff, Nat.reduceDiv, Nat.reduceMod, Nat.reducePow, Int.reduceAdd, Int.reduceSub, Int.reduceMul, Int.reduceLT, Int.reduceLE, Int.reduceEq, Int.reduceNe, Int.reducePow, Int.reduceToNat, Int.reduceNeg]
    exact post_eq (by rw [e, e2])
theorem mix_giv (a b : Int) (ha : 0 ≤ a ∧ a ≤ 255) (hb : 0 ≤ b ∧ b ≤ 255) : Giv Try.prog 18 [.c (.int .u8 a), .c (.int .u8 b)] (retV [.c (.int .u8 (nr ((255 - a) * (255 - b)) 255))]) := by
  refine Giv.of mixed c18 (Nat.le_of_ble_eq_true rfl) ?_
  obtain ⟨p, hp⟩ : ∃ p, (255 - a) * (255 - b) = p := ⟨_, rfl⟩
  have h0 : 0 ≤ p := by rw [← hp]; exact Int.mul_nonneg (by omega) (by omega)
  have h1 : p ≤ 65025 := by
    rw [← hp]
    calc (255 - a) * (255 - b) ≤ 255 * (255 - b) := Int.mul_le_mul_of_nonneg_right (by omega) (by omega)
      _ ≤ 65025 := by omega
  have e : (2 * p + 255).tdiv 510 = (2 * p + 255) / 510 := Int.tdiv_eq_ediv_of_nonneg (by omega)
  have e2 : nr p 255 = (2 * p + 255) / 510 := rfl
  simp -dsimp -implicitDefEqProofs (disch := first | omega | (simp only [List.length_append, List.length_cons, List.length_nil, List.length_take, List.length_drop]; omega)) only [a18, hp, e, ↓aPre, aPost, oneW, allOne, retV, retVA, ↓reduceIte, reduceCtorEq, Nat.reduceAdd, Nat.reduceSub, Nat.reduceMul, Nat.reduceLT, Nat.reduceLeDiff, Nat.reduceEqDiff, Nat.reduceDiv, Nat.reduceMod, Nat.reducePow, Int.reduceAdd, Int.reduceSub, Int.reduceMul, Int.reduceLT, Int.reduceLE, Int.reduceEq, Int.reduceNe, Int.reducePow, Int.reduceToNat, Int.reduceNeg]
  exact post_eq (by rw [e2])
theorem mix_b {a b : Int} (ha : 0 ≤ a ∧ a ≤ 255) (hb : 0 ≤ b ∧ b ≤ 255) : 0 ≤ nr ((255 - a) * (255 - b)) 255 ∧ nr ((255 - a) * (255 - b)) 255 ≤ 255 ∧ 0 ≤ (255 - a) * (255 - b) ∧ (255 - a) * (255 - b) ≤ 65025 := by
  obtain ⟨p, hp⟩ : ∃ p, (255 - a) * (255 - b) = p := ⟨_, rfl⟩
  have h0 : 0 ≤ p := by rw [← hp]; exact Int.mul_nonneg (by omega) (by omega)
  have h1 : p ≤ 65025 := by
    rw [← hp]
    calc (255 - a) * (255 - b) ≤ 255 * (255 - b) := Int.mul_le_mul_of_nonneg_right (by omega) (by omega)
      _ ≤ 65025 := by omega
  rw [hp]
  unfold nr
  omega
end Go.Proofs.Ytdhcbaeglfdflaa
