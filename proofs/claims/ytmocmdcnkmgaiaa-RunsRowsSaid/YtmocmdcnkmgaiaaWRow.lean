/- The row that changes at places. No condition but what each says. -/
import Derived.Test.YtmocmdcnkmgaiaaWPack
import Derived.Test.YtmocmdcnkmgaiaaLFlip
set_option linter.unusedSimpArgs false
set_option linter.unusedVariables false
namespace Go.Proofs.Ytmocmdcnkmgaiaa
open Go.Eng Go.RowKit
def cnt (l : List Int) (x : Int) : Nat → Nat
  | 0 => 0
  | k + 1 => cnt l x k + (if l.getD k 0 ≤ x then 1 else 0)
def pixK (l : List Int) (w : Int) (k : Nat) (x : Nat) : Bool := decide (cnt l x (min k l.length) % 2 = 1) && decide ((x : Int) < w)
theorem sorted_lt {w : Int} {l : List Int} (h : rightW w l (-1) = true) (i : Nat) : ∀ d, i + d + 1 < l.length → l.getD i 0 < l.getD (i + d + 1) 0
  | 0, hd => rightW_lt w l _ h i hd
  | d + 1, hd => Int.lt_trans (sorted_lt h i d (by omega)) (rightW_lt w l _ h (i + d + 1) hd)
theorem cnt_all {w : Int} {l : List Int} (h : rightW w l (-1) = true) {i : Nat} (hi : i < l.length) {x : Int} (hx : l.getD i 0 ≤ x) : ∀ k, k ≤ i → cnt l x k = k
  | 0, _ => rfl
  | k + 1, hk => by
    have := sorted_lt h k (i - k - 1) (by omega)
    rw [show k + (i - k - 1) + 1 = i by omega] at this
    rw [cnt, cnt_all h hi hx k (by omega), if_pos (by omega)]
theorem getD_bound {w : Int} {l : List Int} (h : rightW w l (-1) = true) {i : Nat} (hi : i < l.length) : 0 ≤ l.getD i 0 ∧ l.getD i 0 < w := by
  have := rightW_bound w l _ h (l.getD i 0) (by simp only [List.getD, List.getElem?_eq_getElem hi, Option.getD_some]; exact List.getElem_mem _)
  omega
def endK (l : List Int) (w : Int) (i : Nat) : Int := if i + 1 < l.length then l.getD (i + 1) 0 else w
theorem pix_step {w : Int} {l : List Int} (h : rightW w l (-1) = true) (i : Nat) (hi : i < l.length) (he : i % 2 = 0) (x : Nat) :
    pixK l w (i + 2) x = (pixK l w i x || (decide (l.getD i 0 ≤ x) && decide ((x : Int) < endK l w i))) := by
  have hb := getD_bound h hi
  unfold pixK endK
  rw [show min i l.length = i by omega]
  by_cases c : l.getD i 0 ≤ (x : Int)
  · have ca := cnt_all h hi c i (Nat.le_refl _)
    have e0 : decide (cnt l (x : Int) i % 2 = 1) = false := decide_eq_false (by omega)
    rw [e0, decide_eq_true c, Bool.false_and, Bool.false_or, Bool.true_and]
    by_cases c1 : i + 1 < l.length
    · have hb1 := getD_bound h c1
      rw [show min (i + 2) l.length = i + 2 by omega, if_pos c1, cnt, cnt, ca, if_pos c]
      by_cases c2 : l.getD (i + 1) 0 ≤ (x : Int)
      · rw [if_pos c2, decide_eq_false (by omega), decide_eq_false (show ¬ (x : Int) < l.getD (i + 1) 0 by omega), Bool.false_and]
      · rw [if_neg c2, decide_eq_true (by omega), decide_eq_true (show (x : Int) < l.getD (i + 1) 0 by omega), decide_eq_true (show (x : Int) < w by omega)]; rfl
    · rw [show min (i + 2) l.length = i + 1 by omega, if_neg c1, cnt, ca, if_pos c, decide_eq_true (by omega), Bool.true_and]
  · rw [decide_eq_false c, Bool.false_and, Bool.or_false]
    by_cases c1 : i + 1 < l.length
    · have := rightW_lt w l _ h i c1
      rw [show min (i + 2) l.length = i + 2 by omega, cnt, cnt, if_neg c, if_neg (by omega)]
      rfl
    · rw [show min (i + 2) l.length = i + 1 by omega, cnt, if_neg c]; rfl
def midK (l : List Int) (w : Int) (i a y : Nat) (x : Nat) : Bool := pixK l w i x || (decide (a ≤ x) && decide (x < y))
theorem mid_0 {l : List Int} {w : Int} {i a n : Nat} : packK (midK l w i a a) n = packK (pixK l w i) n := packK_congr n fun x _ => by
  unfold midK
  by_cases c : a ≤ x
  · rw [decide_eq_false (show ¬ x < a by omega), Bool.and_false, Bool.or_false]
  · rw [decide_eq_false c, Bool.false_and, Bool.or_false]
theorem mid_put (l : List Int) (w : Int) (i a y : Nat) (h : a ≤ y) (n : Nat) : packK (put1 (midK l w i a y) y) n = packK (midK l w i a (y + 1)) n := packK_congr n fun x _ => by
  unfold midK put1
  by_cases c : x = y
  · subst c; rw [if_pos rfl, decide_eq_true h, decide_eq_true (Nat.lt_succ_self _)]; simp
  · rw [if_neg c, show decide (x < y + 1) = decide (x < y) by rw [decide_eq_decide]; omega]
theorem mid_end {w : Int} {l : List Int} (h : rightW w l (-1) = true) (i : Nat) (hi : i < l.length) (he : i % 2 = 0) (a : Nat) (ha : l.getD i 0 = a) (e : Nat) (hee : endK l w i = e) (n : Nat) : packK (midK l w i a e) n = packK (pixK l w (i + 2)) n := packK_congr n fun x _ => by
  rw [pix_step h i hi he x, ha, hee]
  unfold midK
  simp only [Int.ofNat_le, Int.ofNat_lt]
def rowD (l : List Int) (w : Int) : List D := if bad l w then [.lst 1 [], .c (.int .i64 1)] else [.lst 1 (li .u8 (packK (pixK l w l.length) ((w.toNat + 7) / 8))), .c (.int .i64 0)]
theorem row_giv (l : List Int) (w : Int) (hl : l.length ≤ 100000) : Giv Try.prog 14 [.lst 1 (li .i64 l), .c (.int .i64 w)] (retV (rowD l w)) := by
  refine Giv.of mixed c14 (Nat.le_of_ble_eq_true rfl) ?_
  by_cases h1 : w < 0
  · simp -dsimp -implicitDefEqProofs (disch := first | omega | (simp only [List.length_append, List.length_cons, List.length_nil, List.length_take, List.length_drop]; omega)) only [a14, ↓aPre, aPost, oneW, allOne, retV, retVA, ↓reduceIte, reduceCtorEq, Nat.reduceAdd, Nat.reduceSub, Nat.reduceMul, Nat.reduceLT, Nat.reduceLeDiff, Nat.reduceEqDiff, Nat.reduceDiv, Nat.reduceMod, Nat.reducePow, Int.reduceAdd, Int.reduceSub, Int.reduceMul, Int.reduceLT, Int.reduceLE, Int.reduceEq, Int.reduceNe, Int.reducePow, Int.reduceToNat, Int.reduceNeg]
    rw [rowD, if_pos (.inl h1)]
    exact post_nil (leD_refl _)
  by_cases h2 : 32768 < w
  · simp -dsimp -implicitDefEqProofs (disch := first | omega | (simp only [List.length_append, List.length_cons, List.length_nil, List.length_take, List.length_drop]; omega)) only [a14, ↓aPre, aPost, oneW, allOne, retV, retVA, ↓reduceIte, reduceCtorEq, Nat.reduceAdd, Nat.reduceSub, Nat.reduceMul, Nat.reduceLT, Nat.reduceLeDiff, Nat.reduceEqDiff, Nat.reduceDiv, Nat.reduceMod, Nat.reducePow, Int.reduceAdd, Int.reduceSub, Int.reduceMul, Int.reduceLT, Int.reduceLE, Int.reduceEq, Int.reduceNe, Int.reducePow, Int.reduceToNat, Int.reduceNeg]
    rw [rowD, if_pos (.inr (.inl h2))]
    exact post_nil (leD_refl _)
  simp -dsimp -implicitDefEqProofs (disch := first | omega | (simp only [List.length_append, List.length_cons, List.length_nil, List.length_take, List.length_drop]; omega)) only [a14, ↓aPre, aPost, oneW, allOne, retV, retVA, ↓reduceIte, reduceCtorEq, Nat.reduceAdd, Nat.reduceSub, Nat.reduceMul, Nat.reduceLT, Nat.reduceLeDiff, Nat.reduceEqDiff, Nat.reduceDiv, Nat.reduceMod, Nat.reducePow, Int.reduceAdd, Int.reduceSub, Int.reduceMul, Int.reduceLT, Int.reduceLE, Int.reduceEq, Int.reduceNe, Int.reducePow, Int.reduceToNat, Int.reduceNeg]
  refine call_giv (right_giv l w (by omega)) ?_
  cases hr : rightW w l (-1) with
  | false =>
    simp -dsimp -implicitDefEqProofs (disch := first | omega | (simp only [List.length_append, List.length_cons, List.length_nil, List.length_take, List.length_drop]; omega)) only [↓aPre, aPost, oneW, allOne, retV, retVA, ↓reduceIte, reduceCtorEq, Nat.reduceAdd, Nat.reduceSub, Nat.reduceMul, Nat.reduceLT, Nat.reduceLeDiff, Nat.reduceEqDiff, Nat.reduceDiv, Nat.reduceMod, Nat.reducePow, Int.reduceAdd, Int.reduceSub, Int.reduceMul, Int.reduceLT, Int.reduceLE, Int.reduceEq, Int.reduceNe, Int.reducePow, Int.reduceToNat, Int.reduceNeg]
    rw [rowD, if_pos (.inr (.inr hr))]
    exact post_nil (leD_refl _)
  | true =>
    rw [rowD, if_neg (by rintro (h | h | h) <;> first | omega | (rw [hr] at h; cases h))]
    obtain ⟨m, rfl⟩ : ∃ m : Nat, w = m := ⟨w.toNat, by omega⟩
    obtain ⟨n, hn⟩ : ∃ n, n = (m + 7) / 8 := ⟨_, rfl⟩
    have en : (((m : Int) + 7) / 8) = n := by omega
    rw [Int.toNat_natCast, ← hn]
    simp -dsimp -implicitDefEqProofs (disch := first | omega | (simp only [List.length_append, List.length_cons, List.length_nil, List.length_take, List.length_drop]; omega)) only [en, ↓aPre, aPost, oneW, allOne, retV, retVA, ↓reduceIte, reduceCtorEq, Nat.reduceAdd, Nat.reduceSub, Nat.reduceMul, Nat.reduceLT, Nat.reduceLeDiff, Nat.reduceEqDiff, Nat.reduceDiv, Nat.reduceMod, Nat.reducePow, Int.reduceAdd, Int.reduceSub, Int.reduceMul, Int.reduceLT, Int.reduceLE, Int.reduceEq, Int.reduceNe, Int.reducePow, Int.reduceToNat, Int.reduceNeg]
    refine loop_of (fun s => ∃ (i : Nat), i % 2 = 0 ∧ i ≤ l.length + 1 ∧ s.tm 7 = .d (.c (.int .i64 i)) ∧ s.tm 0 = .d (.lst 1 (li .i64 l)) ∧ s.tm 1 = .d (.c (.int .i64 m)) ∧ s.tm 6 = .sl 25 1 0 n ∧ s.hp 25 = some (.row 1 (li .u8 (packK (pixK l m i) n)))) (fun s => l.length + 2 - (avN (s.tm 7)).toNat) ?_ ?_
    · refine ⟨0, rfl, Nat.zero_le _, ?_⟩
      have e0 : List.replicate n (0 : Int) = packK (pixK l m 0) n := by
        rw [pack_zero]
        refine packK_congr n fun x _ => ?_
        unfold pixK
        rw [Nat.zero_min]; rfl
      simp -dsimp -implicitDefEqProofs (disch := first | omega | (simp only [List.length_append, List.length_cons, List.length_nil, List.length_take, List.length_drop]; omega)) only [e0, Int.natCast_zero, ↓aPre, aPost, oneW, allOne, retV, retVA, ↓reduceIte, reduceCtorEq, Nat.reduceAdd, Nat.reduceSub, Nat.reduceMul, Nat.reduceLT, Nat.reduceLeDiff, Nat.reduceEqDiff, Nat.reduceDiv, Nat.reduceMod, Nat.reducePow, Int.reduceAdd, Int.reduceSub, Int.reduceMul, Int.reduceLT, Int.reduceLE, Int.reduceEq, Int.reduceNe, Int.reducePow, Int.reduceToNat, Int.reduceNeg]
    rintro s ⟨i, hi2, hi, hs⟩
    by_cases hlt : i < l.length
    · have hb := getD_bound hr hlt
      obtain ⟨a, ha⟩ : ∃ a : Nat, l.getD i 0 = a := ⟨(l.getD i 0).toNat, by omega⟩
      have e1 : ((i : Int) + 1).toNat = i + 1 := by omega
      have he : endK l m i ≤ m ∧ (a : Int) ≤ endK l m i := by
        unfold endK
        split
        · rename_i c
          have := getD_bound hr c
          have := rightW_lt _ _ _ hr i c
          omega
        · omega
      obtain ⟨e, hee⟩ : ∃ e : Nat, endK l m i = e := ⟨(endK l m i).toNat, by omega⟩
      rw [hee] at he
      by_cases c1 : i + 1 < l.length
      · have h8 : l.getD (i + 1) 0 = e := by rw [← hee, endK, if_pos c1]
        simp -dsimp -implicitDefEqProofs (disch := first | omega | (simp only [List.length_append, List.length_cons, List.length_nil, List.length_take, List.length_drop]; omega)) only [hs, e1, h8, ha, ↓aPre, aPost, oneW, allOne, retV, retVA, ↓reduceIte, reduceCtorEq, Nat.reduceAdd, Nat.reduceSub, Nat.reduceMul, Nat.reduceLT, Nat.reduceLeDiff, Nat.reduceEqDiff, Nat.reduceDiv, Nat.reduceMod, Nat.reducePow, Int.reduceAdd, Int.reduceSub, Int.reduceMul, Int.reduceLT, Int.reduceLE, Int.reduceEq, Int.reduceNe, Int.reducePow, Int.reduceToNat, Int.reduceNeg]
        refine loop_of (fun s => ∃ (y : Nat), a ≤ y ∧ y ≤ e ∧ s.tm 9 = .d (.c (.int .i64 y)) ∧ s.tm 8 = .d (.c (.int .i64 e)) ∧ s.tm 7 = .d (.c (.int .i64 i)) ∧ s.tm 0 = .d (.lst 1 (li .i64 l)) ∧ s.tm 1 = .d (.c (.int .i64 m)) ∧ s.tm 6 = .sl 25 1 0 n ∧ s.hp 25 = some (.row 1 (li .u8 (packK (midK l m i a y) n)))) (fun s => e - (avN (s.tm 9)).toNat) ?_ ?_
        · refine ⟨a, Nat.le_refl _, by omega, ?_⟩
          simp -dsimp -implicitDefEqProofs (disch := first | omega | (simp only [List.length_append, List.length_cons, List.length_nil, List.length_take, List.length_drop]; omega)) only [hs, mid_0, h8, ↓aPre, aPost, oneW, allOne, retV, retVA, ↓reduceIte, reduceCtorEq, Nat.reduceAdd, Nat.reduceSub, Nat.reduceMul, Nat.reduceLT, Nat.reduceLeDiff, Nat.reduceEqDiff, Nat.reduceDiv, Nat.reduceMod, Nat.reducePow, Int.reduceAdd, Int.reduceSub, Int.reduceMul, Int.reduceLT, Int.reduceLE, Int.reduceEq, Int.reduceNe, Int.reducePow, Int.reduceToNat, Int.reduceNeg]
        rintro s2 ⟨y, hay, hye, hs2⟩
        by_cases hy : y < e
        · have e2 : ((y : Int) / 8).toNat = y / 8 := by omega
          have e3 : min ((y : Int) % 8).toNat IntKind.u8.bits = y % 8 := by simp [IntKind.bits]; omega
          have eS : (128 : Int).fdiv (2 ^ (min ((y : Int) % 8).toNat IntKind.u8.bits)) = 128 / 2 ^ (y % 8) := by
            rw [e3, Int.fdiv_eq_ediv_of_nonneg _ (Int.pow_nonneg (by omega))]
          have el := packK_len (midK l m i a y) n
          have hyn : y / 8 < n := by omega
          have em := mid_put l m i a y hay n
          simp -dsimp -implicitDefEqProofs (disch := first | omega | (simp only [List.length_append, List.length_cons, List.length_nil, List.length_take, List.length_drop]; omega)) only [hs2, e2, eS, el, pack_set _ n y hyn, ↓aPre, aPost, oneW, allOne, retV, retVA, ↓reduceIte, reduceCtorEq, Nat.reduceAdd, Nat.reduceSub, Nat.reduceMul, Nat.reduceLT, Nat.reduceLeDiff, Nat.reduceEqDiff, Nat.reduceDiv, Nat.reduceMod, Nat.reducePow, Int.reduceAdd, Int.reduceSub, Int.reduceMul, Int.reduceLT, Int.reduceLE, Int.reduceEq, Int.reduceNe, Int.reducePow, Int.reduceToNat, Int.reduceNeg]
          refine round_of ⟨y + 1, by omega, by omega, ?_⟩ ?_
          · simp -dsimp -implicitDefEqProofs (disch := first | omega | (simp only [List.length_append, List.length_cons, List.length_nil, List.length_take, List.length_drop]; omega)) only [hs2, em, ↓aPre, aPost, oneW, allOne, retV, retVA, ↓reduceIte, reduceCtorEq, Nat.reduceAdd, Nat.reduceSub, Nat.reduceMul, Nat.reduceLT, Nat.reduceLeDiff, Nat.reduceEqDiff, Nat.reduceDiv, Nat.reduceMod, Nat.reducePow, Int.reduceAdd, Int.reduceSub, Int.reduceMul, Int.reduceLT, Int.reduceLE, Int.reduceEq, Int.reduceNe, Int.reducePow, Int.reduceToNat, Int.reduceNeg]
          · simp -dsimp -implicitDefEqProofs (disch := first | omega | (simp only [List.length_append, List.length_cons, List.length_nil, List.length_take, List.length_drop]; omega)) only [hs2, ↓aPre, aPost, oneW, allOne, retV, retVA, ↓reduceIte, reduceCtorEq, Nat.reduceAdd, Nat.reduceSub, Nat.reduceMul, Nat.reduceLT, Nat.reduceLeDiff, Nat.reduceEqDiff, Nat.reduceDiv, Nat.reduceMod, Nat.reducePow, Int.reduceAdd, Int.reduceSub, Int.reduceMul, Int.reduceLT, Int.reduceLE, Int.reduceEq, Int.reduceNe, Int.reducePow, Int.reduceToNat, Int.reduceNeg]
            omega
        · obtain rfl : y = e := by omega
          have ef := mid_end hr i hlt hi2 a ha y hee n
          simp -dsimp -implicitDefEqProofs (disch := first | omega | (simp only [List.length_append, List.length_cons, List.length_nil, List.length_take, List.length_drop]; omega)) only [hs2, ↓aPre, aPost, oneW, allOne, retV, retVA, ↓reduceIte, reduceCtorEq, Nat.reduceAdd, Nat.reduceSub, Nat.reduceMul, Nat.reduceLT, Nat.reduceLeDiff, Nat.reduceEqDiff, Nat.reduceDiv, Nat.reduceMod, Nat.reducePow, Int.reduceAdd, Int.reduceSub, Int.reduceMul, Int.reduceLT, Int.reduceLE, Int.reduceEq, Int.reduceNe, Int.reducePow, Int.reduceToNat, Int.reduceNeg]
          refine round_of ⟨i + 2, by omega, by omega, ?_⟩ ?_
          · simp -dsimp -implicitDefEqProofs (disch := first | omega | (simp only [List.length_append, List.length_cons, List.length_nil, List.length_take, List.length_drop]; omega)) only [hs2, ef, ↓aPre, aPost, oneW, allOne, retV, retVA, ↓reduceIte, reduceCtorEq, Nat.reduceAdd, Nat.reduceSub, Nat.reduceMul, Nat.reduceLT, Nat.reduceLeDiff, Nat.reduceEqDiff, Nat.reduceDiv, Nat.reduceMod, Nat.reducePow, Int.reduceAdd, Int.reduceSub, Int.reduceMul, Int.reduceLT, Int.reduceLE, Int.reduceEq, Int.reduceNe, Int.reducePow, Int.reduceToNat, Int.reduceNeg]
          · simp -dsimp -implicitDefEqProofs (disch := first | omega | (simp only [List.length_append, List.length_cons, List.length_nil, List.length_take, List.length_drop]; omega)) only [hs2, hs, ↓aPre, aPost, oneW, allOne, retV, retVA, ↓reduceIte, reduceCtorEq, Nat.reduceAdd, Nat.reduceSub, Nat.reduceMul, Nat.reduceLT, Nat.reduceLeDiff, Nat.reduceEqDiff, Nat.reduceDiv, Nat.reduceMod, Nat.reducePow, Int.reduceAdd, Int.reduceSub, Int.reduceMul, Int.reduceLT, Int.reduceLE, Int.reduceEq, Int.reduceNe, Int.reducePow, Int.reduceToNat, Int.reduceNeg]
            omega
      · have h8 : m = e := by have := hee; rw [endK, if_neg c1] at this; omega
        simp -dsimp -implicitDefEqProofs (disch := first | omega | (simp only [List.length_append, List.length_cons, List.length_nil, List.length_take, List.length_drop]; omega)) only [hs, e1, ha, ↓aPre, aPost, oneW, allOne, retV, retVA, ↓reduceIte, reduceCtorEq, Nat.reduceAdd, Nat.reduceSub, Nat.reduceMul, Nat.reduceLT, Nat.reduceLeDiff, Nat.reduceEqDiff, Nat.reduceDiv, Nat.reduceMod, Nat.reducePow, Int.reduceAdd, Int.reduceSub, Int.reduceMul, Int.reduceLT, Int.reduceLE, Int.reduceEq, Int.reduceNe, Int.reducePow, Int.reduceToNat, Int.reduceNeg]
        refine loop_of (fun s => ∃ (y : Nat), a ≤ y ∧ y ≤ e ∧ s.tm 9 = .d (.c (.int .i64 y)) ∧ s.tm 8 = .d (.c (.int .i64 e)) ∧ s.tm 7 = .d (.c (.int .i64 i)) ∧ s.tm 0 = .d (.lst 1 (li .i64 l)) ∧ s.tm 1 = .d (.c (.int .i64 m)) ∧ s.tm 6 = .sl 25 1 0 n ∧ s.hp 25 = some (.row 1 (li .u8 (packK (midK l m i a y) n)))) (fun s => e - (avN (s.tm 9)).toNat) ?_ ?_
        · refine ⟨a, Nat.le_refl _, by omega, ?_⟩
          simp -dsimp -implicitDefEqProofs (disch := first | omega | (simp only [List.length_append, List.length_cons, List.length_nil, List.length_take, List.length_drop]; omega)) only [hs, mid_0, h8, ↓aPre, aPost, oneW, allOne, retV, retVA, ↓reduceIte, reduceCtorEq, Nat.reduceAdd, Nat.reduceSub, Nat.reduceMul, Nat.reduceLT, Nat.reduceLeDiff, Nat.reduceEqDiff, Nat.reduceDiv, Nat.reduceMod, Nat.reducePow, Int.reduceAdd, Int.reduceSub, Int.reduceMul, Int.reduceLT, Int.reduceLE, Int.reduceEq, Int.reduceNe, Int.reducePow, Int.reduceToNat, Int.reduceNeg]
        rintro s2 ⟨y, hay, hye, hs2⟩
        by_cases hy : y < e
        · have e2 : ((y : Int) / 8).toNat = y / 8 := by omega
          have e3 : min ((y : Int) % 8).toNat IntKind.u8.bits = y % 8 := by simp [IntKind.bits]; omega
          have eS : (128 : Int).fdiv (2 ^ (min ((y : Int) % 8).toNat IntKind.u8.bits)) = 128 / 2 ^ (y % 8) := by
            rw [e3, Int.fdiv_eq_ediv_of_nonneg _ (Int.pow_nonneg (by omega))]
          have el := packK_len (midK l m i a y) n
          have hyn : y / 8 < n := by omega
          have em := mid_put l m i a y hay n
          simp -dsimp -implicitDefEqProofs (disch := first | omega | (simp only [List.length_append, List.length_cons, List.length_nil, List.length_take, List.length_drop]; omega)) only [hs2, e2, eS, el, pack_set _ n y hyn, ↓aPre, aPost, oneW, allOne, retV, retVA, ↓reduceIte, reduceCtorEq, Nat.reduceAdd, Nat.reduceSub, Nat.reduceMul, Nat.reduceLT, Nat.reduceLeDiff, Nat.reduceEqDiff, Nat.reduceDiv, Nat.reduceMod, Nat.reducePow, Int.reduceAdd, Int.reduceSub, Int.reduceMul, Int.reduceLT, Int.reduceLE, Int.reduceEq, Int.reduceNe, Int.reducePow, Int.reduceToNat, Int.reduceNeg]
          refine round_of ⟨y + 1, by omega, by omega, ?_⟩ ?_
          · simp -dsimp -implicitDefEqProofs (disch := first | omega | (simp only [List.length_append, List.length_cons, List.length_nil, List.length_take, List.length_drop]; omega)) only [hs2, em, ↓aPre, aPost, oneW, allOne, retV, retVA, ↓reduceIte, reduceCtorEq, Nat.reduceAdd, Nat.reduceSub, Nat.reduceMul, Nat.reduceLT, Nat.reduceLeDiff, Nat.reduceEqDiff, Nat.reduceDiv, Nat.reduceMod, Nat.reducePow, Int.reduceAdd, Int.reduceSub, Int.reduceMul, Int.reduceLT, Int.reduceLE, Int.reduceEq, Int.reduceNe, Int.reducePow, Int.reduceToNat, Int.reduceNeg]
          · simp -dsimp -implicitDefEqProofs (disch := first | omega | (simp only [List.length_append, List.length_cons, List.length_nil, List.length_take, List.length_drop]; omega)) only [hs2, ↓aPre, aPost, oneW, allOne, retV, retVA, ↓reduceIte, reduceCtorEq, Nat.reduceAdd, Nat.reduceSub, Nat.reduceMul, Nat.reduceLT, Nat.reduceLeDiff, Nat.reduceEqDiff, Nat.reduceDiv, Nat.reduceMod, Nat.reducePow, Int.reduceAdd, Int.reduceSub, Int.reduceMul, Int.reduceLT, Int.reduceLE, Int.reduceEq, Int.reduceNe, Int.reducePow, Int.reduceToNat, Int.reduceNeg]
            omega
        · obtain rfl : y = e := by omega
          have ef := mid_end hr i hlt hi2 a ha y hee n
          simp -dsimp -implicitDefEqProofs (disch := first | omega | (simp only [List.length_append, List.length_cons, List.length_nil, List.length_take, List.length_drop]; omega)) only [hs2, ↓aPre, aPost, oneW, allOne, retV, retVA, ↓reduceIte, reduceCtorEq, Nat.reduceAdd, Nat.reduceSub, Nat.reduceMul, Nat.reduceLT, Nat.reduceLeDiff, Nat.reduceEqDiff, Nat.reduceDiv, Nat.reduceMod, Nat.reducePow, Int.reduceAdd, Int.reduceSub, Int.reduceMul, Int.reduceLT, Int.reduceLE, Int.reduceEq, Int.reduceNe, Int.reducePow, Int.reduceToNat, Int.reduceNeg]
          refine round_of ⟨i + 2, by omega, by omega, ?_⟩ ?_
          · simp -dsimp -implicitDefEqProofs (disch := first | omega | (simp only [List.length_append, List.length_cons, List.length_nil, List.length_take, List.length_drop]; omega)) only [hs2, ef, ↓aPre, aPost, oneW, allOne, retV, retVA, ↓reduceIte, reduceCtorEq, Nat.reduceAdd, Nat.reduceSub, Nat.reduceMul, Nat.reduceLT, Nat.reduceLeDiff, Nat.reduceEqDiff, Nat.reduceDiv, Nat.reduceMod, Nat.reducePow, Int.reduceAdd, Int.reduceSub, Int.reduceMul, Int.reduceLT, Int.reduceLE, Int.reduceEq, Int.reduceNe, Int.reducePow, Int.reduceToNat, Int.reduceNeg]
          · simp -dsimp -implicitDefEqProofs (disch := first | omega | (simp only [List.length_append, List.length_cons, List.length_nil, List.length_take, List.length_drop]; omega)) only [hs2, hs, ↓aPre, aPost, oneW, allOne, retV, retVA, ↓reduceIte, reduceCtorEq, Nat.reduceAdd, Nat.reduceSub, Nat.reduceMul, Nat.reduceLT, Nat.reduceLeDiff, Nat.reduceEqDiff, Nat.reduceDiv, Nat.reduceMod, Nat.reducePow, Int.reduceAdd, Int.reduceSub, Int.reduceMul, Int.reduceLT, Int.reduceLE, Int.reduceEq, Int.reduceNe, Int.reducePow, Int.reduceToNat, Int.reduceNeg]
            omega
    · have el := packK_len (pixK l m i) n
      simp -dsimp -implicitDefEqProofs (disch := first | omega | (simp only [List.length_append, List.length_cons, List.length_nil, List.length_take, List.length_drop]; omega)) only [hs, el, ↓aPre, aPost, oneW, allOne, retV, retVA, ↓reduceIte, reduceCtorEq, Nat.reduceAdd, Nat.reduceSub, Nat.reduceMul, Nat.reduceLT, Nat.reduceLeDiff, Nat.reduceEqDiff, Nat.reduceDiv, Nat.reduceMod, Nat.reducePow, Int.reduceAdd, Int.reduceSub, Int.reduceMul, Int.reduceLT, Int.reduceLE, Int.reduceEq, Int.reduceNe, Int.reducePow, Int.reduceToNat, Int.reduceNeg]
      refine post_eq ?_
      rw [show pixK l m i = pixK l m l.length from funext fun x => by unfold pixK; rw [show min i l.length = min l.length l.length by omega]]
end Go.Proofs.Ytmocmdcnkmgaiaa
