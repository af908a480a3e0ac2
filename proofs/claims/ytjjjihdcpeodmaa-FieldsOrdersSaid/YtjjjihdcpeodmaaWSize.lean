/- Sizes of types, their parts; numbers of texts. No condition but what each says. -/
import Derived.Test.YtjjjihdcpeodmaaWRead
import Derived.Test.YtjjjihdcpeodmaaLSigned
set_option linter.unusedSimpArgs false
set_option linter.unusedVariables false
set_option maxRecDepth 8000
set_option maxHeartbeats 4000000
namespace Go.Proofs.Ytjjjihdcpeodmaa
open Go.Eng Go.RowKit
def knownP (k : Int) : Prop := k = 1 ∨ k = 2 ∨ k = 3 ∨ k = 4 ∨ k = 5 ∨ k = 6 ∨ k = 7 ∨ k = 8 ∨ k = 9 ∨ k = 10 ∨ k = 11 ∨ k = 12 ∨ k = 13 ∨ k = 16 ∨ k = 17 ∨ k = 18
instance (k : Int) : Decidable (knownP k) := by unfold knownP; infer_instance
def szI (k : Int) : Int := if k = 1 ∨ k = 2 ∨ k = 6 ∨ k = 7 then 1 else if k = 3 ∨ k = 8 then 2 else if k = 4 ∨ k = 9 ∨ k = 11 ∨ k = 13 then 4 else if k = 5 ∨ k = 10 ∨ k = 12 ∨ k = 16 ∨ k = 17 ∨ k = 18 then 8 else 0
def frP (k : Int) : Prop := k = 5 ∨ k = 10
instance (k : Int) : Decidable (frP k) := by unfold frP; infer_instance
theorem sz_0 {k : Int} (h : ¬ knownP k) : szI k = 0 := by
  unfold knownP at h
  unfold szI
  rw [if_neg (by omega), if_neg (by omega), if_neg (by omega), if_neg (by omega)]
theorem ne_known {k : Int} (h : ¬ knownP k) : ¬ k = 1 ∧ ¬ k = 2 ∧ ¬ k = 3 ∧ ¬ k = 4 ∧ ¬ k = 5 ∧ ¬ k = 6 ∧ ¬ k = 7 ∧ ¬ k = 8 ∧ ¬ k = 9 ∧ ¬ k = 10 ∧ ¬ k = 11 ∧ ¬ k = 12 ∧ ¬ k = 13 ∧ ¬ k = 16 ∧ ¬ k = 17 ∧ ¬ k = 18 := by
  unfold knownP at h
  omega
theorem size_t {k : Int} (h : knownP k) : Giv Try.prog 12 [.c (.int .i64 k)] (retV [.c (.int .i64 (szI k)), .c (.int .i64 0)]) := by
  refine Giv.of mixed c12 (Nat.le_of_ble_eq_true rfl) ?_
  rcases h with rfl | rfl | rfl | rfl | rfl | rfl | rfl | rfl | rfl | rfl | rfl | rfl | rfl | rfl | rfl | rfl
  all_goals
    simp -dsimp -implicitDefEqProofs (disch := first | omega | (simp only [List.length_append, List.length_cons, List.length_nil, List.length_take, List.length_drop]; omega)) only [a12, ↓aPre, aPost, oneW, allOne, retV, retVA, ↓reduceIte, reduceCtorEq, Nat.reduceAdd, Nat.reduceSub, Nat.reduceMul, Nat.reduceLT, Nat.reduceLeDiff, Nat.reduceEqDiff, Nat.reduceDiv, Nat.reduceMod, Nat.reducePow, Int.reduceAdd, Int.reduceSub, Int.reduceMul, Int.reduceLT, Int.reduceLE, Int.reduceEq, Int.reduceNe, Int.reducePow, Int.reduceToNat, Int.reduceNeg]
    exact post_eq rfl
theorem size_f {k : Int} (h : ¬ knownP k) : Giv Try.prog 12 [.c (.int .i64 k)] (retV [.c (.int .i64 0), .c (.int .i64 9)]) := by
  refine Giv.of mixed c12 (Nat.le_of_ble_eq_true rfl) ?_
  obtain ⟨n1, n2, n3, n4, n5, n6, n7, n8, n9, n10, n11, n12, n13, n16, n17, n18⟩ := ne_known h
  simp -dsimp -implicitDefEqProofs (disch := first | omega | (simp only [List.length_append, List.length_cons, List.length_nil, List.length_take, List.length_drop]; omega)) only [a12, ibeq_f n1, n1, ibeq_f n2, n2, ibeq_f n3, n3, ibeq_f n4, n4, ibeq_f n5, n5, ibeq_f n6, n6, ibeq_f n7, n7, ibeq_f n8, n8, ibeq_f n9, n9, ibeq_f n10, n10, ibeq_f n11, n11, ibeq_f n12, n12, ibeq_f n13, n13, ibeq_f n16, n16, ibeq_f n17, n17, ibeq_f n18, n18, ↓aPre, aPost, oneW, allOne, retV, retVA, ↓reduceIte, reduceCtorEq, Nat.reduceAdd, Nat.reduceSub, Nat.reduceMul, Nat.reduceLT, Nat.reduceLeDiff, Nat.reduceEqDiff, Nat.reduceDiv, Nat.reduceMod, Nat.reducePow, Int.reduceAdd, Int.reduceSub, Int.reduceMul, Int.reduceLT, Int.reduceLE, Int.reduceEq, Int.reduceNe, Int.reducePow, Int.reduceToNat, Int.reduceNeg]
  exact post_eq rfl
theorem parts_1 {k : Int} (h : knownP k) (hf : ¬ frP k) : Giv Try.prog 19 [.c (.int .i64 k)] (retV [.c (.int .i64 1), .c (.int .i64 (szI k))]) := by
  refine Giv.of mixed c19 (Nat.le_of_ble_eq_true rfl) ?_
  have h5 : ¬ k = 5 := fun e => hf (.inl e)
  have h10 : ¬ k = 10 := fun e => hf (.inr e)
  simp -dsimp -implicitDefEqProofs (disch := first | omega | (simp only [List.length_append, List.length_cons, List.length_nil, List.length_take, List.length_drop]; omega)) only [a19, ↓aPre, aPost, oneW, allOne, retV, retVA, ↓reduceIte, reduceCtorEq, Nat.reduceAdd, Nat.reduceSub, Nat.reduceMul, Nat.reduceLT, Nat.reduceLeDiff, Nat.reduceEqDiff, Nat.reduceDiv, Nat.reduceMod, Nat.reducePow, Int.reduceAdd, Int.reduceSub, Int.reduceMul, Int.reduceLT, Int.reduceLE, Int.reduceEq, Int.reduceNe, Int.reducePow, Int.reduceToNat, Int.reduceNeg]
  refine call_giv (size_t h) ?_
  simp -dsimp -implicitDefEqProofs (disch := first | omega | (simp only [List.length_append, List.length_cons, List.length_nil, List.length_take, List.length_drop]; omega)) only [ibeq_f h5, ibeq_f h10, h5, h10, ↓aPre, aPost, oneW, allOne, retV, retVA, ↓reduceIte, reduceCtorEq, Nat.reduceAdd, Nat.reduceSub, Nat.reduceMul, Nat.reduceLT, Nat.reduceLeDiff, Nat.reduceEqDiff, Nat.reduceDiv, Nat.reduceMod, Nat.reducePow, Int.reduceAdd, Int.reduceSub, Int.reduceMul, Int.reduceLT, Int.reduceLE, Int.reduceEq, Int.reduceNe, Int.reducePow, Int.reduceToNat, Int.reduceNeg]
  exact post_eq rfl
theorem parts_2 {k : Int} (hf : frP k) : Giv Try.prog 19 [.c (.int .i64 k)] (retV [.c (.int .i64 2), .c (.int .i64 4)]) := by
  have h : knownP k := by unfold knownP; unfold frP at hf; omega
  refine Giv.of mixed c19 (Nat.le_of_ble_eq_true rfl) ?_
  rcases hf with rfl | rfl
  all_goals
    simp -dsimp -implicitDefEqProofs (disch := first | omega | (simp only [List.length_append, List.length_cons, List.length_nil, List.length_take, List.length_drop]; omega)) only [a19, ↓aPre, aPost, oneW, allOne, retV, retVA, ↓reduceIte, reduceCtorEq, Nat.reduceAdd, Nat.reduceSub, Nat.reduceMul, Nat.reduceLT, Nat.reduceLeDiff, Nat.reduceEqDiff, Nat.reduceDiv, Nat.reduceMod, Nat.reducePow, Int.reduceAdd, Int.reduceSub, Int.reduceMul, Int.reduceLT, Int.reduceLE, Int.reduceEq, Int.reduceNe, Int.reducePow, Int.reduceToNat, Int.reduceNeg]
    refine call_giv (size_t h) ?_
    simp -dsimp -implicitDefEqProofs (disch := first | omega | (simp only [List.length_append, List.length_cons, List.length_nil, List.length_take, List.length_drop]; omega)) only [↓aPre, aPost, oneW, allOne, retV, retVA, ↓reduceIte, reduceCtorEq, Nat.reduceAdd, Nat.reduceSub, Nat.reduceMul, Nat.reduceLT, Nat.reduceLeDiff, Nat.reduceEqDiff, Nat.reduceDiv, Nat.reduceMod, Nat.reducePow, Int.reduceAdd, Int.reduceSub, Int.reduceMul, Int.reduceLT, Int.reduceLE, Int.reduceEq, Int.reduceNe, Int.reducePow, Int.reduceToNat, Int.reduceNeg]
    exact post_eq rfl
theorem frac_giv (k : Int) : Giv Try.prog 21 [.c (.int .i64 k)] (retV [.c (.bool (decide (frP k)))]) := by
  refine Giv.of mixed c21 (Nat.le_of_ble_eq_true rfl) ?_
  by_cases h5 : k = 5
  · subst h5
    simp -dsimp -implicitDefEqProofs (disch := first | omega | (simp only [List.length_append, List.length_cons, List.length_nil, List.length_take, List.length_drop]; omega)) only [a21, ↓aPre, aPost, oneW, allOne, retV, retVA, ↓reduceIte, reduceCtorEq, Nat.reduceAdd, Nat.reduceSub, Nat.reduceMul, Nat.reduceLT, Nat.reduceLeDiff, Nat.reduceEqDiff, Nat.reduceDiv, Nat.reduceMod, Nat.reducePow, Int.reduceAdd, Int.reduceSub, Int.reduceMul, Int.reduceLT, Int.reduceLE, Int.reduceEq, Int.reduceNe, Int.reducePow, Int.reduceToNat, Int.reduceNeg]
    exact post_eq rfl
  by_cases h10 : k = 10
  · subst h10
    simp -dsimp -implicitDefEqProofs (disch := first | omega | (simp only [List.length_append, List.length_cons, List.length_nil, List.length_take, List.length_drop]; omega)) only [a21, ↓aPre, aPost, oneW, allOne, retV, retVA, ↓reduceIte, reduceCtorEq, Nat.reduceAdd, Nat.reduceSub, Nat.reduceMul, Nat.reduceLT, Nat.reduceLeDiff, Nat.reduceEqDiff, Nat.reduceDiv, Nat.reduceMod, Nat.reducePow, Int.reduceAdd, Int.reduceSub, Int.reduceMul, Int.reduceLT, Int.reduceLE, Int.reduceEq, Int.reduceNe, Int.reducePow, Int.reduceToNat, Int.reduceNeg]
    exact post_eq rfl
  simp -dsimp -implicitDefEqProofs (disch := first | omega | (simp only [List.length_append, List.length_cons, List.length_nil, List.length_take, List.length_drop]; omega)) only [a21, ibeq_f h5, ibeq_f h10, h5, h10, ↓aPre, aPost, oneW, allOne, retV, retVA, ↓reduceIte, reduceCtorEq, Nat.reduceAdd, Nat.reduceSub, Nat.reduceMul, Nat.reduceLT, Nat.reduceLeDiff, Nat.reduceEqDiff, Nat.reduceDiv, Nat.reduceMod, Nat.reducePow, Int.reduceAdd, Int.reduceSub, Int.reduceMul, Int.reduceLT, Int.reduceLE, Int.reduceEq, Int.reduceNe, Int.reducePow, Int.reduceToNat, Int.reduceNeg]
  rw [decide_eq_false (show ¬ frP k by unfold frP; omega)]
  exact post_eq rfl
theorem rsize_giv (k : Int) : Giv Try.prog 9 [.c (.int .i64 k)] (retV [.c (.int .i64 (szI k))]) := by
  by_cases h : 0 ≤ k ∧ k < 19
  · obtain ⟨n, rfl⟩ : ∃ n : Nat, k = n := ⟨k.toNat, by omega⟩
    refine rsize n (by omega) _ ?_
    have hn : n < 19 := by omega
    clear h
    revert n
    decide +kernel
  · have hz : szI k = 0 := by
      unfold szI
      rw [if_neg (by omega), if_neg (by omega), if_neg (by omega), if_neg (by omega)]
    rw [hz]
    refine Giv.of mixed c9 (Nat.le_of_ble_eq_true rfl) ?_
    by_cases h0 : k < 0
    · simp -dsimp -implicitDefEqProofs (disch := first | omega | (simp only [List.length_append, List.length_cons, List.length_nil, List.length_take, List.length_drop]; omega)) only [a9, ↓aPre, aPost, oneW, allOne, retV, retVA, ↓reduceIte, reduceCtorEq, Nat.reduceAdd, Nat.reduceSub, Nat.reduceMul, Nat.reduceLT, Nat.reduceLeDiff, Nat.reduceEqDiff, Nat.reduceDiv, Nat.reduceMod, Nat.reducePow, Int.reduceAdd, Int.reduceSub, Int.reduceMul, Int.reduceLT, Int.reduceLE, Int.reduceEq, Int.reduceNe, Int.reducePow, Int.reduceToNat, Int.reduceNeg]
      exact post_eq rfl
    · simp -dsimp -implicitDefEqProofs (disch := first | omega | (simp only [List.length_append, List.length_cons, List.length_nil, List.length_take, List.length_drop]; omega)) only [a9, ↓aPre, aPost, oneW, allOne, retV, retVA, ↓reduceIte, reduceCtorEq, Nat.reduceAdd, Nat.reduceSub, Nat.reduceMul, Nat.reduceLT, Nat.reduceLeDiff, Nat.reduceEqDiff, Nat.reduceDiv, Nat.reduceMod, Nat.reducePow, Int.reduceAdd, Int.reduceSub, Int.reduceMul, Int.reduceLT, Int.reduceLE, Int.reduceEq, Int.reduceNe, Int.reducePow, Int.reduceToNat, Int.reduceNeg]
      exact post_eq rfl
def turnK (w : List Int) : Nat → List Int
  | 0 => []
  | k + 1 => w.getD k 0 :: turnK w k
theorem turnK_len (w : List Int) : ∀ k, (turnK w k).length = k
  | 0 => rfl
  | k + 1 => by rw [turnK, List.length_cons, turnK_len w k]
theorem turnK_get (w : List Int) : ∀ k i, i < k → (turnK w k).getD i 0 = w.getD (k - 1 - i) 0
  | 0, i, h => by omega
  | k + 1, 0, h => by rw [turnK, List.getD_cons_zero]; congr 1
  | k + 1, i + 1, h => by
    rw [turnK, List.getD_cons_succ, turnK_get w k i (by omega)]
    congr 1; omega
theorem turnK_bytes {w : List Int} (h : Bytes w) : ∀ k, Bytes (turnK w k)
  | 0 => Bytes.nil
  | k + 1 => fun z hz => by
    rw [turnK] at hz
    rcases List.mem_cons.1 hz with rfl | hz
    · exact h.get k
    · exact turnK_bytes h k z hz
theorem one_take {w : List Int} {k : Nat} (h : k < w.length) : (w.drop k).take 1 = [w.getD k 0] := by rw [drop_at h]; rfl
theorem turn_giv (w : List Int) (hl : w.length ≤ 1000) : Giv Try.prog 27 [.c (.string (strOfNums w))] (retV [.c (.string (strOfNums (turnK w w.length)))]) := by
  refine Giv.of mixed c27 (Nat.le_of_ble_eq_true rfl) ?_
  simp -dsimp -implicitDefEqProofs (disch := first | omega | (simp only [List.length_append, List.length_cons, List.length_nil, List.length_take, List.length_drop]; omega)) only [a27, ↓aPre, aPost, oneW, allOne, retV, retVA, ↓reduceIte, reduceCtorEq, Nat.reduceAdd, Nat.reduceSub, Nat.reduceMul, Nat.reduceLT, Nat.reduceLeDiff, Nat.reduceEqDiff, Nat.reduceDiv, Nat.reduceMod, Nat.reducePow, Int.reduceAdd, Int.reduceSub, Int.reduceMul, Int.reduceLT, Int.reduceLE, Int.reduceEq, Int.reduceNe, Int.reducePow, Int.reduceToNat, Int.reduceNeg]
  refine loop_of (fun s => ∃ (k : Nat), k ≤ w.length ∧ s.tm 4 = .d (.c (.int .i64 k)) ∧ s.tm 0 = .d (.c (.string (strOfNums w))) ∧ s.tm 3 = .d (.c (.string (strOfNums (turnK w k))))) (fun s => w.length - (avN (s.tm 4)).toNat) ?_ ?_
  · refine ⟨0, Nat.zero_le _, ?_⟩
    simp -dsimp -implicitDefEqProofs (disch := first | omega | (simp only [List.length_append, List.length_cons, List.length_nil, List.length_take, List.length_drop]; omega)) only [turnK, Int.natCast_zero, ↓aPre, aPost, oneW, allOne, retV, retVA, ↓reduceIte, reduceCtorEq, Nat.reduceAdd, Nat.reduceSub, Nat.reduceMul, Nat.reduceLT, Nat.reduceLeDiff, Nat.reduceEqDiff, Nat.reduceDiv, Nat.reduceMod, Nat.reducePow, Int.reduceAdd, Int.reduceSub, Int.reduceMul, Int.reduceLT, Int.reduceLE, Int.reduceEq, Int.reduceNe, Int.reducePow, Int.reduceToNat, Int.reduceNeg]
  rintro s ⟨k, hk, hs⟩
  have el := turnK_len w k
  by_cases hlt : k < w.length
  · have e1 : ((k : Int) + 1).toNat - k = 1 := by omega
    have e2 := one_take hlt
    simp -dsimp -implicitDefEqProofs (disch := first | omega | (simp only [List.length_append, List.length_cons, List.length_nil, List.length_take, List.length_drop]; omega)) only [hs, e1, e2, el, ↓aPre, aPost, oneW, allOne, retV, retVA, ↓reduceIte, reduceCtorEq, Nat.reduceAdd, Nat.reduceSub, Nat.reduceMul, Nat.reduceLT, Nat.reduceLeDiff, Nat.reduceEqDiff, Nat.reduceDiv, Nat.reduceMod, Nat.reducePow, Int.reduceAdd, Int.reduceSub, Int.reduceMul, Int.reduceLT, Int.reduceLE, Int.reduceEq, Int.reduceNe, Int.reducePow, Int.reduceToNat, Int.reduceNeg]
    refine round_of ⟨k + 1, by omega, ?_⟩ ?_
    · simp -dsimp -implicitDefEqProofs (disch := first | omega | (simp only [List.length_append, List.length_cons, List.length_nil, List.length_take, List.length_drop]; omega)) only [hs, e1, e2, el, turnK, ↓aPre, aPost, oneW, allOne, retV, retVA, ↓reduceIte, reduceCtorEq, Nat.reduceAdd, Nat.reduceSub, Nat.reduceMul, Nat.reduceLT, Nat.reduceLeDiff, Nat.reduceEqDiff, Nat.reduceDiv, Nat.reduceMod, Nat.reducePow, Int.reduceAdd, Int.reduceSub, Int.reduceMul, Int.reduceLT, Int.reduceLE, Int.reduceEq, Int.reduceNe, Int.reducePow, Int.reduceToNat, Int.reduceNeg]
    · simp -dsimp -implicitDefEqProofs (disch := first | omega | (simp only [List.length_append, List.length_cons, List.length_nil, List.length_take, List.length_drop]; omega)) only [hs, ↓aPre, aPost, oneW, allOne, retV, retVA, ↓reduceIte, reduceCtorEq, Nat.reduceAdd, Nat.reduceSub, Nat.reduceMul, Nat.reduceLT, Nat.reduceLeDiff, Nat.reduceEqDiff, Nat.reduceDiv, Nat.reduceMod, Nat.reducePow, Int.reduceAdd, Int.reduceSub, Int.reduceMul, Int.reduceLT, Int.reduceLE, Int.reduceEq, Int.reduceNe, Int.reducePow, Int.reduceToNat, Int.reduceNeg]
      omega
  · simp -dsimp -implicitDefEqProofs (disch := first | omega | (simp only [List.length_append, List.length_cons, List.length_nil, List.length_take, List.length_drop]; omega)) only [hs, ↓aPre, aPost, oneW, allOne, retV, retVA, ↓reduceIte, reduceCtorEq, Nat.reduceAdd, Nat.reduceSub, Nat.reduceMul, Nat.reduceLT, Nat.reduceLeDiff, Nat.reduceEqDiff, Nat.reduceDiv, Nat.reduceMod, Nat.reducePow, Int.reduceAdd, Int.reduceSub, Int.reduceMul, Int.reduceLT, Int.reduceLE, Int.reduceEq, Int.reduceNe, Int.reducePow, Int.reduceToNat, Int.reduceNeg]
    obtain rfl : k = w.length := by omega
    exact post_eq rfl
theorem gv_turn (w : List Int) : ∀ k, k ≤ w.length → gvK (turnK w w.length) true k = gvK w false k
  | 0, _ => rfl
  | k + 1, h => by
    rw [gvK, gvK, gv_turn w k (by omega), gF, if_pos rfl, gF, if_neg (by decide), turnK_get _ _ _ (by omega)]
theorem number_giv (w : List Int) (big : Bool) (hl : w.length ≤ 8) (hB : Bytes w) : Giv Try.prog 22 [.c (.string (strOfNums w)), .c (.bool big)] (retV [.c (.int .u64 (gvK w big w.length))]) := by
  refine Giv.of mixed c22 (Nat.le_of_ble_eq_true rfl) ?_
  obtain ⟨v, hv⟩ : ∃ v, v = (if big = true then w else turnK w w.length) := ⟨_, rfl⟩
  have hvl : v.length = w.length := by
    rw [hv]
    cases big
    · exact turnK_len ..
    · rfl
  have hvB : Bytes v := by
    rw [hv]
    cases big
    · exact turnK_bytes hB _
    · exact hB
  have hvg : gvK v true w.length = gvK w big w.length := by
    rw [hv]
    cases big with
    | true => rfl
    | false => exact gv_turn w _ (Nat.le_refl _)
  rw [← hvg]
  cases big with
  | true =>
    obtain rfl : v = w := hv
    simp -dsimp -implicitDefEqProofs (disch := first | omega | (simp only [List.length_append, List.length_cons, List.length_nil, List.length_take, List.length_drop]; omega)) only [a22, ↓aPre, aPost, oneW, allOne, retV, retVA, ↓reduceIte, reduceCtorEq, Nat.reduceAdd, Nat.reduceSub, Nat.reduceMul, Nat.reduceLT, Nat.reduceLeDiff, Nat.reduceEqDiff, Nat.reduceDiv, Nat.reduceMod, Nat.reducePow, Int.reduceAdd, Int.reduceSub, Int.reduceMul, Int.reduceLT, Int.reduceLE, Int.reduceEq, Int.reduceNe, Int.reducePow, Int.reduceToNat, Int.reduceNeg]
    refine loop_of (fun s => ∃ (k : Nat), k ≤ v.length ∧ s.tm 6 = .d (.c (.int .i64 k)) ∧ s.tm 0 = .d (.c (.string (strOfNums v))) ∧ s.tm 5 = .d (.c (.int .u64 (gvK v true k)))) (fun s => v.length - (avN (s.tm 6)).toNat) ?_ ?_
    · refine ⟨0, Nat.zero_le _, ?_⟩
      simp -dsimp -implicitDefEqProofs (disch := first | omega | (simp only [List.length_append, List.length_cons, List.length_nil, List.length_take, List.length_drop]; omega)) only [gvK, Int.natCast_zero, ↓aPre, aPost, oneW, allOne, retV, retVA, ↓reduceIte, reduceCtorEq, Nat.reduceAdd, Nat.reduceSub, Nat.reduceMul, Nat.reduceLT, Nat.reduceLeDiff, Nat.reduceEqDiff, Nat.reduceDiv, Nat.reduceMod, Nat.reducePow, Int.reduceAdd, Int.reduceSub, Int.reduceMul, Int.reduceLT, Int.reduceLE, Int.reduceEq, Int.reduceNe, Int.reducePow, Int.reduceToNat, Int.reduceNeg]
    rintro s ⟨k, hk, hs⟩
    by_cases hlt : k < v.length
    · have hg := gvK_b hvB true k
      have hg1 := gvK_b hvB true (k + 1)
      have hp := pow256 (show k + 1 ≤ 8 by omega)
      have hf := gF_b hvB true k
      have hgf : v.getD k 0 = gF v true k := by rw [gF, if_pos rfl]
      have hnx : gvK v true (k + 1) = gvK v true k * 256 + gF v true k := rfl
      simp -dsimp -implicitDefEqProofs (disch := first | omega | (simp only [List.length_append, List.length_cons, List.length_nil, List.length_take, List.length_drop]; omega)) only [hs, str_get hvB, hgf, ↓aPre, aPost, oneW, allOne, retV, retVA, ↓reduceIte, reduceCtorEq, Nat.reduceAdd, Nat.reduceSub, Nat.reduceMul, Nat.reduceLT, Nat.reduceLeDiff, Nat.reduceEqDiff, Nat.reduceDiv, Nat.reduceMod, Nat.reducePow, Int.reduceAdd, Int.reduceSub, Int.reduceMul, Int.reduceLT, Int.reduceLE, Int.reduceEq, Int.reduceNe, Int.reducePow, Int.reduceToNat, Int.reduceNeg]
      refine round_of ⟨k + 1, by omega, ?_⟩ ?_
      · simp -dsimp -implicitDefEqProofs (disch := first | omega | (simp only [List.length_append, List.length_cons, List.length_nil, List.length_take, List.length_drop]; omega)) only [hs, str_get hvB, hgf, gvK, ↓aPre, aPost, oneW, allOne, retV, retVA, ↓reduceIte, reduceCtorEq, Nat.reduceAdd, Nat.reduceSub, Nat.reduceMul, Nat.reduceLT, Nat.reduceLeDiff, Nat.reduceEqDiff, Nat.reduceDiv, Nat.reduceMod, Nat.reducePow, Int.reduceAdd, Int.reduceSub, Int.reduceMul, Int.reduceLT, Int.reduceLE, Int.reduceEq, Int.reduceNe, Int.reducePow, Int.reduceToNat, Int.reduceNeg]
      · simp -dsimp -implicitDefEqProofs (disch := first | omega | (simp only [List.length_append, List.length_cons, List.length_nil, List.length_take, List.length_drop]; omega)) only [hs, ↓aPre, aPost, oneW, allOne, retV, retVA, ↓reduceIte, reduceCtorEq, Nat.reduceAdd, Nat.reduceSub, Nat.reduceMul, Nat.reduceLT, Nat.reduceLeDiff, Nat.reduceEqDiff, Nat.reduceDiv, Nat.reduceMod, Nat.reducePow, Int.reduceAdd, Int.reduceSub, Int.reduceMul, Int.reduceLT, Int.reduceLE, Int.reduceEq, Int.reduceNe, Int.reducePow, Int.reduceToNat, Int.reduceNeg]
        omega
    · simp -dsimp -implicitDefEqProofs (disch := first | omega | (simp only [List.length_append, List.length_cons, List.length_nil, List.length_take, List.length_drop]; omega)) only [hs, ↓aPre, aPost, oneW, allOne, retV, retVA, ↓reduceIte, reduceCtorEq, Nat.reduceAdd, Nat.reduceSub, Nat.reduceMul, Nat.reduceLT, Nat.reduceLeDiff, Nat.reduceEqDiff, Nat.reduceDiv, Nat.reduceMod, Nat.reducePow, Int.reduceAdd, Int.reduceSub, Int.reduceMul, Int.reduceLT, Int.reduceLE, Int.reduceEq, Int.reduceNe, Int.reducePow, Int.reduceToNat, Int.reduceNeg]
      obtain rfl : k = v.length := by omega
      rw [hvl]
      exact post_eq rfl
  | false =>
    obtain rfl : v = turnK w w.length := hv
    simp -dsimp -implicitDefEqProofs (disch := first | omega | (simp only [List.length_append, List.length_cons, List.length_nil, List.length_take, List.length_drop]; omega)) only [a22, ↓aPre, aPost, oneW, allOne, retV, retVA, ↓reduceIte, reduceCtorEq, Nat.reduceAdd, Nat.reduceSub, Nat.reduceMul, Nat.reduceLT, Nat.reduceLeDiff, Nat.reduceEqDiff, Nat.reduceDiv, Nat.reduceMod, Nat.reducePow, Int.reduceAdd, Int.reduceSub, Int.reduceMul, Int.reduceLT, Int.reduceLE, Int.reduceEq, Int.reduceNe, Int.reducePow, Int.reduceToNat, Int.reduceNeg]
    refine call_giv (turn_giv w (by omega)) ?_
    obtain ⟨v, hv2⟩ : ∃ v, v = turnK w w.length := ⟨_, rfl⟩
    rw [← hv2] at hvl hvB ⊢
    simp -dsimp -implicitDefEqProofs (disch := first | omega | (simp only [List.length_append, List.length_cons, List.length_nil, List.length_take, List.length_drop]; omega)) only [↓aPre, aPost, oneW, allOne, retV, retVA, ↓reduceIte, reduceCtorEq, Nat.reduceAdd, Nat.reduceSub, Nat.reduceMul, Nat.reduceLT, Nat.reduceLeDiff, Nat.reduceEqDiff, Nat.reduceDiv, Nat.reduceMod, Nat.reducePow, Int.reduceAdd, Int.reduceSub, Int.reduceMul, Int.reduceLT, Int.reduceLE, Int.reduceEq, Int.reduceNe, Int.reducePow, Int.reduceToNat, Int.reduceNeg]
    refine loop_of (fun s => ∃ (k : Nat), k ≤ v.length ∧ s.tm 6 = .d (.c (.int .i64 k)) ∧ s.tm 0 = .d (.c (.string (strOfNums v))) ∧ s.tm 5 = .d (.c (.int .u64 (gvK v true k)))) (fun s => v.length - (avN (s.tm 6)).toNat) ?_ ?_
    · refine ⟨0, Nat.zero_le _, ?_⟩
      simp -dsimp -implicitDefEqProofs (disch := first | omega | (simp only [List.length_append, List.length_cons, List.length_nil, List.length_take, List.length_drop]; omega)) only [gvK, Int.natCast_zero, ↓aPre, aPost, oneW, allOne, retV, retVA, ↓reduceIte, reduceCtorEq, Nat.reduceAdd, Nat.reduceSub, Nat.reduceMul, Nat.reduceLT, Nat.reduceLeDiff, Nat.reduceEqDiff, Nat.reduceDiv, Nat.reduceMod, Nat.reducePow, Int.reduceAdd, Int.reduceSub, Int.reduceMul, Int.reduceLT, Int.reduceLE, Int.reduceEq, Int.reduceNe, Int.reducePow, Int.reduceToNat, Int.reduceNeg]
    rintro s ⟨k, hk, hs⟩
    by_cases hlt : k < v.length
    · have hg := gvK_b hvB true k
      have hg1 := gvK_b hvB true (k + 1)
      have hp := pow256 (show k + 1 ≤ 8 by omega)
      have hf := gF_b hvB true k
      have hgf : v.getD k 0 = gF v true k := by rw [gF, if_pos rfl]
      have hnx : gvK v true (k + 1) = gvK v true k * 256 + gF v true k := rfl
      simp -dsimp -implicitDefEqProofs (disch := first | omega | (simp only [List.length_append, List.length_cons, List.length_nil, List.length_take, List.length_drop]; omega)) only [hs, str_get hvB, hgf, ↓aPre, aPost, oneW, allOne, retV, retVA, ↓reduceIte, reduceCtorEq, Nat.reduceAdd, Nat.reduceSub, Nat.reduceMul, Nat.reduceLT, Nat.reduceLeDiff, Nat.reduceEqDiff, Nat.reduceDiv, Nat.reduceMod, Nat.reducePow, Int.reduceAdd, Int.reduceSub, Int.reduceMul, Int.reduceLT, Int.reduceLE, Int.reduceEq, Int.reduceNe, Int.reducePow, Int.reduceToNat, Int.reduceNeg]
      refine round_of ⟨k + 1, by omega, ?_⟩ ?_
      · simp -dsimp -implicitDefEqProofs (disch := first | omega | (simp only [List.length_append, List.length_cons, List.length_nil, List.length_take, List.length_drop]; omega)) only [hs, str_get hvB, hgf, gvK, ↓aPre, aPost, oneW, allOne, retV, retVA, ↓reduceIte, reduceCtorEq, Nat.reduceAdd, Nat.reduceSub, Nat.reduceMul, Nat.reduceLT, Nat.reduceLeDiff, Nat.reduceEqDiff, Nat.reduceDiv, Nat.reduceMod, Nat.reducePow, Int.reduceAdd, Int.reduceSub, Int.reduceMul, Int.reduceLT, Int.reduceLE, Int.reduceEq, Int.reduceNe, Int.reducePow, Int.reduceToNat, Int.reduceNeg]
      · simp -dsimp -implicitDefEqProofs (disch := first | omega | (simp only [List.length_append, List.length_cons, List.length_nil, List.length_take, List.length_drop]; omega)) only [hs, ↓aPre, aPost, oneW, allOne, retV, retVA, ↓reduceIte, reduceCtorEq, Nat.reduceAdd, Nat.reduceSub, Nat.reduceMul, Nat.reduceLT, Nat.reduceLeDiff, Nat.reduceEqDiff, Nat.reduceDiv, Nat.reduceMod, Nat.reducePow, Int.reduceAdd, Int.reduceSub, Int.reduceMul, Int.reduceLT, Int.reduceLE, Int.reduceEq, Int.reduceNe, Int.reducePow, Int.reduceToNat, Int.reduceNeg]
        omega
    · simp -dsimp -implicitDefEqProofs (disch := first | omega | (simp only [List.length_append, List.length_cons, List.length_nil, List.length_take, List.length_drop]; omega)) only [hs, ↓aPre, aPost, oneW, allOne, retV, retVA, ↓reduceIte, reduceCtorEq, Nat.reduceAdd, Nat.reduceSub, Nat.reduceMul, Nat.reduceLT, Nat.reduceLeDiff, Nat.reduceEqDiff, Nat.reduceDiv, Nat.reduceMod, Nat.reducePow, Int.reduceAdd, Int.reduceSub, Int.reduceMul, Int.reduceLT, Int.reduceLE, Int.reduceEq, Int.reduceNe, Int.reducePow, Int.reduceToNat, Int.reduceNeg]
      obtain rfl : k = v.length := by omega
      rw [hvl]
      exact post_eq rfl
end Go.Proofs.Ytjjjihdcpeodmaa
