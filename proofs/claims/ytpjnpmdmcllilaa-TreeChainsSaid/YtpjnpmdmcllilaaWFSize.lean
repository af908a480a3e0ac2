/- Sizes of types, their parts; numbers of texts. No condition but what each says. -/
import Derived.Test.YtpjnpmdmcllilaaWFRead
set_option linter.unusedSimpArgs false
set_option linter.unusedVariables false
set_option maxRecDepth 8000
set_option maxHeartbeats 4000000
namespace Go.Proofs.Ytpjnpmdmcllilaa
open Go.Eng Go.RowKit
def knownP (k : Int) : Prop := k = 1 ∨ k = 2 ∨ k = 3 ∨ k = 4 ∨ k = 5 ∨ k = 6 ∨ k = 7 ∨ k = 8 ∨ k = 9 ∨ k = 10 ∨ k = 11 ∨ k = 12 ∨ k = 13 ∨ k = 16 ∨ k = 17 ∨ k = 18
instance (k : Int) : Decidable (knownP k) := by unfold knownP; infer_instance
def szI (k : Int) : Int := if k = 1 ∨ k = 2 ∨ k = 6 ∨ k = 7 then 1 else if k = 3 ∨ k = 8 then 2 else if k = 4 ∨ k = 9 ∨ k = 11 ∨ k = 13 then 4 else if k = 5 ∨ k = 10 ∨ k = 12 ∨ k = 16 ∨ k = 17 ∨ k = 18 then 8 else 0
def frP (k : Int) : Prop := k = 5 ∨ k = 10
instance (k : Int) : Decidable (frP k) := by unfold frP; infer_instance
theorem sz_0 {k : Int} (h : ¬ knownP k) : szI k = 0 := by
  unfold knownP at h
  unfold szI
  rw [if_neg (by omega), if_neg (by omega), if_neg (by omega), if_neg (by omega)]
theorem ne_known {k : Int} (h : ¬ knownP k) : ¬ k = 1 ∧ ¬ k = 2 ∧ ¬ k = 3 ∧ ¬ k = 4 ∧ ¬ k = 5 ∧ ¬ k = 6 ∧ ¬ k = 7 ∧ ¬ k = 8 ∧ ¬ k = 9 ∧ ¬ k = 10 ∧ ¬ k = 11 ∧ ¬ k = 12 ∧ ¬ k = 13 ∧ ¬ k = 16 ∧ ¬ k = 17 ∧ ¬ k = 18 := by
  unfold knownP at h
  omega
theorem size_t {k : Int} (h : knownP k) : Giv Try.prog 36 [.c (.int .i64 k)] (retV [.c (.int .i64 (szI k)), .c (.int .i64 0)]) := by
  refine Giv.of mixed c36 (Nat.le_of_ble_eq_true rfl) ?_
  rcases h with rfl | rfl | rfl | rfl | rfl | rfl | rfl | rfl | rfl | rfl | rfl | rfl | rfl | rfl | rfl | rfl
  all_goals
    simp -dsimp -implicitDefEqProofs (disch := first | omega | (simp only [List.length_append, List.length_cons, List.length_nil, List.length_take, List.length_drop]; omega)) only [a36, ↓aPre, aPost, oneW, allOne, retV, retVA, simprocAttr]
    exact post_eq rfl
theorem size_f {k : Int} (h : ¬ knownP k) : Giv Try.prog 36 [.c (.int .i64 k)] (retV [.c (.int .i64 0), .c (.int .i64 9)]) := by
  refine Giv.of mixed c36 (Nat.le_of_ble_eq_true rfl) ?_
  obtain ⟨n1, n2, n3, n4, n5, n6, n7, n8, n9, n10, n11, n12, n13, n16, n17, n18⟩ := ne_known h
  simp -dsimp -implicitDefEqProofs (disch := first | omega | (simp only [List.length_append, List.length_cons, List.length_nil, List.length_take, List.length_drop]; omega)) only [a36, ibeq_f n1, n1, ibeq_f n2, n2, ibeq_f n3, n3, ibeq_f n4, n4, ibeq_f n5, n5, ibeq_f n6, n6, ibeq_f n7, n7, ibeq_f n8, n8, ibeq_f n9, n9, ibeq_f n10, n10, ibeq_f n11, n11, ibeq_f n12, n12, ibeq_f n13, n13, ibeq_f n16, n16, ibeq_f n17, n17, ibeq_f n18, n18, ↓aPre, aPost, oneW, allOne, retV, retVA, simprocAttr]
  exact post_eq rfl
theorem parts_1 {k : Int} (h : knownP k) (hf : ¬ frP k) : Giv Try.prog 41 [.c (.int .i64 k)] (retV [.c (.int .i64 1), .c (.int .i64 (szI k))]) := by
  refine Giv.of mixed c41 (Nat.le_of_ble_eq_true rfl) ?_
  have h5 : ¬ k = 5 := fun e => hf (.inl e)
  have h10 : ¬ k = 10 := fun e => hf (.inr e)
  simp -dsimp -implicitDefEqProofs (disch := first | omega | (simp only [List.length_append, List.length_cons, List.length_nil, List.length_take, List.length_drop]; omega)) only [a41, ↓aPre, aPost, oneW, allOne, retV, retVA, simprocAttr]
  refine call_giv (size_t h) ?_
  simp -dsimp -implicitDefEqProofs (disch := first | omega | (simp only [List.length_append, List.length_cons, List.length_nil, List.length_take, List.length_drop]; omega)) only [ibeq_f h5, ibeq_f h10, h5, h10, ↓aPre, aPost, oneW, allOne, retV, retVA, simprocAttr]
  exact post_eq rfl
theorem parts_2 {k : Int} (hf : frP k) : Giv Try.prog 41 [.c (.int .i64 k)] (retV [.c (.int .i64 2), .c (.int .i64 4)]) := by
  have h : knownP k := by unfold knownP; unfold frP at hf; omega
  refine Giv.of mixed c41 (Nat.le_of_ble_eq_true rfl) ?_
  rcases hf with rfl | rfl
  all_goals
    simp -dsimp -implicitDefEqProofs (disch := first | omega | (simp only [List.length_append, List.length_cons, List.length_nil, List.length_take, List.length_drop]; omega)) only [a41, ↓aPre, aPost, oneW, allOne, retV, retVA, simprocAttr]
    refine call_giv (size_t h) ?_
    simp -dsimp -implicitDefEqProofs (disch := first | omega | (simp only [List.length_append, List.length_cons, List.length_nil, List.length_take, List.length_drop]; omega)) only [↓aPre, aPost, oneW, allOne, retV, retVA, simprocAttr]
    exact post_eq rfl
theorem frac_giv (k : Int) : Giv Try.prog 39 [.c (.int .i64 k)] (retV [.c (.bool (decide (frP k)))]) := by
  refine Giv.of mixed c39 (Nat.le_of_ble_eq_true rfl) ?_
  by_cases h5 : k = 5
  · subst h5
    simp -dsimp -implicitDefEqProofs (disch := first | omega | (simp only [List.length_append, List.length_cons, List.length_nil, List.length_take, List.length_drop]; omega)) only [a39, ↓aPre, aPost, oneW, allOne, retV, retVA, simprocAttr]
    exact post_eq rfl
  by_cases h10 : k = 10
  · subst h10
    simp -dsimp -implicitDefEqProofs (disch := first | omega | (simp only [List.length_append, List.length_cons, List.length_nil, List.length_take, List.length_drop]; omega)) only [a39, ↓aPre, aPost, oneW, allOne, retV, retVA, simprocAttr]
    exact post_eq rfl
  simp -dsimp -implicitDefEqProofs (disch := first | omega | (simp only [List.length_append, List.length_cons, List.length_nil, List.length_take, List.length_drop]; omega)) only [a39, ibeq_f h5, ibeq_f h10, h5, h10, ↓aPre, aPost, oneW, allOne, retV, retVA, simprocAttr]
  rw [decide_eq_false (show ¬ frP k by unfold frP; omega)]
  exact post_eq rfl
theorem rsize (k : Nat) (hk : k < 19) (z : Int) (hz : ([0, 1, 1, 2, 4, 8, 1, 1, 2, 4, 8, 4, 8, 4, 0, 0, 8, 8, 8] : List Int).getD k 0 = z) : Giv Try.prog 32 [.c (.int .i64 k)] (retV [.c (.int .i64 z)]) := by
  refine Giv.of mixed c32 (Nat.le_of_ble_eq_true rfl) ?_
  have hg : ([D.c (.int .i64 0), .c (.int .i64 1), .c (.int .i64 1), .c (.int .i64 2), .c (.int .i64 4), .c (.int .i64 8), .c (.int .i64 1), .c (.int .i64 1), .c (.int .i64 2), .c (.int .i64 4), .c (.int .i64 8), .c (.int .i64 4), .c (.int .i64 8), .c (.int .i64 4), .c (.int .i64 0), .c (.int .i64 0), .c (.int .i64 8), .c (.int .i64 8), .c (.int .i64 8)] : List D).getD k default = .c (.int .i64 z) := by
    rw [← hz]
    match k, hk with
    | 0, _ | 1, _ | 2, _ | 3, _ | 4, _ | 5, _ | 6, _ | 7, _ | 8, _ | 9, _ | 10, _ | 11, _ | 12, _ | 13, _ | 14, _ | 15, _ | 16, _ | 17, _ | 18, _ => rfl
    | n + 19, h => exact absurd h (by omega)
  simp -dsimp -implicitDefEqProofs (disch := first | omega | (simp only [List.length_append, List.length_cons, List.length_nil, List.length_take, List.length_drop]; omega)) only [a32, hg, ↓aPre, aPost, oneW, allOne, retV, retVA, simprocAttr]
  exact post_eq rfl
theorem rsize_giv (k : Int) : Giv Try.prog 32 [.c (.int .i64 k)] (retV [.c (.int .i64 (szI k))]) := by
  by_cases h : 0 ≤ k ∧ k < 19
  · obtain ⟨n, rfl⟩ : ∃ n : Nat, k = n := ⟨k.toNat, by omega⟩
    refine rsize n (by omega) _ ?_
    have hn : n < 19 := by omega
    clear h
    revert n
    decide +kernel
  · have hz : szI k = 0 := by
      unfold szI
      rw [if_neg (by omega), if_neg (by omega), if_neg (by omega), if_neg (by omega)]
    rw [hz]
    refine Giv.of mixed c32 (Nat.le_of_ble_eq_true rfl) ?_
    by_cases h0 : k < 0
    · simp -dsimp -implicitDefEqProofs (disch := first | omega | (simp only [List.length_append, List.length_cons, List.length_nil, List.length_take, List.length_drop]; omega)) only [a32, ↓aPre, aPost, oneW, allOne, retV, retVA, simprocAttr]
      exact post_eq rfl
    · simp -dsimp -implicitDefEqProofs (disch := first | omega | (simp only [List.length_append, List.length_cons, List.length_nil, List.length_take, List.length_drop]; omega)) only [a32, ↓aPre, aPost, oneW, allOne, retV, retVA, simprocAttr]
      exact post_eq rfl
end Go.Proofs.Ytpjnpmdmcllilaa
