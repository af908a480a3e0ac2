/- LimitLengths: the law's function gives true of all data. No condition but that whole numbers are of their kinds. -/
import Derived.Test.YtlchakkdgkbabaaWLst
import Derived.Test.YtlchakkdgkbabaaLMore
set_option linter.unusedSimpArgs false
set_option linter.unusedVariables false
set_option maxRecDepth 8000
set_option maxHeartbeats 8000000
namespace Go.Proofs.Ytlchakkdgkbabaa
open Go.Eng Go.RowKit
theorem wrong_arg (l : List Int) (m : Int) (h : m < 1 ∨ m > 30 ∨ 300 < l.length) (hn : l.length ≤ 9223372036854775807) : Giv Try.prog 9 [.lst 1 (li .i64 l), .c (.int .i64 m)] (retV [.c (.bool true)]) := by
  have hll := li_length (k := .i64) (l := l)
  refine Giv.of mixed c9 (Nat.le_of_ble_eq_true rfl) ?_
  by_cases a : m < 1
  · simp -dsimp -implicitDefEqProofs (disch := first | omega | (simp only [List.length_append, List.length_cons, List.length_nil, List.length_take, List.length_drop]; omega)) only [a9, hll, a, ↓aPre, aPost, oneW, allOne, retV, retVA, simprocAttr]
    exact post_eq rfl
  · by_cases b : m > 30
    · simp -dsimp -implicitDefEqProofs (disch := first | omega | (simp only [List.length_append, List.length_cons, List.length_nil, List.length_take, List.length_drop]; omega)) only [a9, hll, a, b, ↓aPre, aPost, oneW, allOne, retV, retVA, simprocAttr]
      exact post_eq rfl
    · have c : l.length > 300 := by omega
      simp -dsimp -implicitDefEqProofs (disch := first | omega | (simp only [List.length_append, List.length_cons, List.length_nil, List.length_take, List.length_drop]; omega)) only [a9, hll, a, b, ↓aPre, aPost, oneW, allOne, retV, retVA, simprocAttr]
      exact post_eq rfl
theorem wrong_row (l : List Int) (m : Int) (h1 : ¬ m < 1) (h2 : ¬ m > 30) (h3 : ¬ 300 < l.length) (b : Bool) (hb : (b = false ∧ GoodL l) ∨ (b = true ∧ ¬ GoodL l)) : Giv Try.prog 9 [.lst 1 (li .i64 l), .c (.int .i64 m)] (retV [.c (.bool b)]) := by
  have hll := li_length (k := .i64) (l := l)
  refine Giv.of mixed c9 (Nat.le_of_ble_eq_true rfl) ?_
  simp -dsimp -implicitDefEqProofs (disch := first | omega | (simp only [List.length_append, List.length_cons, List.length_nil, List.length_take, List.length_drop]; omega)) only [a9, hll, h1, h2, ↓aPre, aPost, oneW, allOne, retV, retVA, simprocAttr]
  refine loop_of (fun s => ∃ k : Nat, k ≤ l.length ∧ (∀ j, j < k → 0 ≤ l.getD j 0 ∧ l.getD j 0 ≤ 1073741824) ∧ s.tm 18 = .d (.lst 1 (li .i64 l)) ∧ s.tm 19 = .d (.c (.int .i64 l.length)) ∧ s.tm 20 = .d (.c (.int .i64 k))) (fun s => l.length - (avN (s.tm 20)).toNat) ?_ ?_
  · refine ⟨0, Nat.zero_le _, fun j hj => absurd hj (Nat.not_lt_zero _), ?_⟩
    simp -dsimp -implicitDefEqProofs (disch := first | omega | (simp only [List.length_append, List.length_cons, List.length_nil, List.length_take, List.length_drop]; omega)) only [Int.natCast_zero, ↓aPre, aPost, oneW, allOne, retV, retVA, simprocAttr]
  rintro s ⟨k, hk, hall, hs⟩
  by_cases hlt : k < l.length
  · obtain ⟨z, hz⟩ : ∃ z, z = l.getD k 0 := ⟨_, rfl⟩
    by_cases c1 : z < 0
    · rcases hb with ⟨-, hg⟩ | ⟨rfl, -⟩
      · have := hg k hlt
        omega
      · simp -dsimp -implicitDefEqProofs (disch := first | omega | (simp only [List.length_append, List.length_cons, List.length_nil, List.length_take, List.length_drop]; omega)) only [hs, hll, ← hz, c1, ↓aPre, aPost, oneW, allOne, retV, retVA, simprocAttr]
        exact post_eq rfl
    by_cases c2 : z > 1073741824
    · rcases hb with ⟨-, hg⟩ | ⟨rfl, -⟩
      · have := hg k hlt
        omega
      · simp -dsimp -implicitDefEqProofs (disch := first | omega | (simp only [List.length_append, List.length_cons, List.length_nil, List.length_take, List.length_drop]; omega)) only [hs, hll, ← hz, c1, c2, ↓aPre, aPost, oneW, allOne, retV, retVA, simprocAttr]
        exact post_eq rfl
    simp -dsimp -implicitDefEqProofs (disch := first | omega | (simp only [List.length_append, List.length_cons, List.length_nil, List.length_take, List.length_drop]; omega)) only [hs, hll, ← hz, c1, c2, ↓aPre, aPost, oneW, allOne, retV, retVA, simprocAttr]
    refine round_of ⟨k + 1, by omega, fun j hj => ?_, ?_⟩ ?_
    · by_cases e : j = k
      · rw [e, ← hz]; omega
      · exact hall j (by omega)
    · simp -dsimp -implicitDefEqProofs (disch := first | omega | (simp only [List.length_append, List.length_cons, List.length_nil, List.length_take, List.length_drop]; omega)) only [hs, ↓aPre, aPost, oneW, allOne, retV, retVA, simprocAttr]
    · simp -dsimp -implicitDefEqProofs (disch := first | omega | (simp only [List.length_append, List.length_cons, List.length_nil, List.length_take, List.length_drop]; omega)) only [hs, ↓aPre, aPost, oneW, allOne, retV, retVA, simprocAttr]
      omega
  · obtain rfl : k = l.length := by omega
    rcases hb with ⟨rfl, -⟩ | ⟨-, hg⟩
    · simp -dsimp -implicitDefEqProofs (disch := first | omega | (simp only [List.length_append, List.length_cons, List.length_nil, List.length_take, List.length_drop]; omega)) only [hs, ↓aPre, aPost, oneW, allOne, retV, retVA, simprocAttr]
      exact post_eq rfl
    · exact absurd hall hg
theorem limitLengths_giv (y0 : List Int) (h0 : (y0.length * 8 ≤ 140737488351232 ∧ ∀ z ∈ y0, -9223372036854775808 ≤ z ∧ z ≤ 9223372036854775807)) (y1 : Int) (h1 : (-9223372036854775808 ≤ y1 ∧ y1 ≤ 9223372036854775807)) : Giv Try.prog 3 [.lst 1 (li .i64 y0), .c (.int .i64 y1)] (.d (.c (.bool true))) := by
  show Giv Try.prog 3 [.lst 1 (li .i64 y0), .c (.int .i64 y1)] (retV [.c (.bool true)])
  have hll := li_length (k := .i64) (l := y0)
  refine Giv.of mixed c3 (Nat.le_of_ble_eq_true rfl) ?_
  by_cases hbig : y0.length > 400
  · simp -dsimp -implicitDefEqProofs (disch := first | omega | (simp only [List.length_append, List.length_cons, List.length_nil, List.length_take, List.length_drop]; omega)) only [a3, ↓aPre, aPost, oneW, allOne, retV, retVA, simprocAttr]
    refine call_giv lives_giv ?_
    simp -dsimp -implicitDefEqProofs (disch := first | omega | (simp only [List.length_append, List.length_cons, List.length_nil, List.length_take, List.length_drop]; omega)) only [hll, ↓aPre, aPost, oneW, allOne, retV, retVA, simprocAttr]
    refine call_giv lives_giv ?_
    simp -dsimp -implicitDefEqProofs (disch := first | omega | (simp only [List.length_append, List.length_cons, List.length_nil, List.length_take, List.length_drop]; omega)) only [↓aPre, aPost, oneW, allOne, retV, retVA, simprocAttr]
    exact post_eq rfl
  have tk : List.take y0.length (li .i64 y0) = li .i64 y0 := List.take_of_length_le (by rw [hll]; exact Nat.le_refl _)
  have tk2 : List.take y0.length y0 = y0 := List.take_of_length_le (Nat.le_refl _)
  simp -dsimp -implicitDefEqProofs (disch := first | omega | (simp only [List.length_append, List.length_cons, List.length_nil, List.length_take, List.length_drop]; omega)) only [a3, ↓aPre, aPost, oneW, allOne, retV, retVA, simprocAttr]
  refine call_giv lives_giv ?_
  simp -dsimp -implicitDefEqProofs (disch := first | omega | (simp only [List.length_append, List.length_cons, List.length_nil, List.length_take, List.length_drop]; omega)) only [hll, tk, tk2, ↓aPre, aPost, oneW, allOne, retV, retVA, simprocAttr]
  rcases lens_any y0 y1 (by omega) with ⟨L, rfl, g1, g2, g3, g4, g5, g6⟩ | ⟨e, he, g⟩
  · have hl2 := lensL_len y0 L
    have hl3 := li_length (k := .i64) (l := lensL y0 L)
    rw [hl2] at hl3
    have gw := wrong_row y0 L (by omega) (by omega) (by omega) false (.inl ⟨rfl, g4⟩)
    have gc := coming_giv y0 (by omega)
    obtain ⟨n, hn⟩ : ∃ n, n = (sgs y0).length := ⟨_, rfl⟩
    have hn2 : (wts (sgl y0 y0.length)).length = n := by rw [wts_len, hn, sgs_len]
    have hln := li_length (k := .i64) (l := wts (sgl y0 y0.length))
    rw [hn2] at hln
    have hsh := shl1 L g2
    have gs := serves_giv y0 L g1 g2 g3 g4 g5
    have gco := cost_of g1 g2 g3 g4 g5
    rw [← hn] at g5
    obtain ⟨P2, hP2⟩ : ∃ P2, P2 = 2 ^ L := ⟨_, rfl⟩
    rw [← hP2] at hsh g5
    refine call_giv g6 ?_
    simp -dsimp -implicitDefEqProofs (disch := first | omega | (simp only [List.length_append, List.length_cons, List.length_nil, List.length_take, List.length_drop]; omega)) only [hll, ↓aPre, aPost, oneW, allOne, retV, retVA, simprocAttr]
    refine call_giv gw ?_
    simp -dsimp -implicitDefEqProofs (disch := first | omega | (simp only [List.length_append, List.length_cons, List.length_nil, List.length_take, List.length_drop]; omega)) only [hll, ↓aPre, aPost, oneW, allOne, retV, retVA, simprocAttr]
    refine call_giv gc ?_
    simp -dsimp -implicitDefEqProofs (disch := first | omega | (simp only [List.length_append, List.length_cons, List.length_nil, List.length_take, List.length_drop]; omega)) only [hll, hln, hsh, ↓aPre, aPost, oneW, allOne, retV, retVA, simprocAttr]
    refine loop_of (fun s => ∃ k : Nat, k ≤ y0.length ∧ s.tm 0 = .d (.lst 1 (li .i64 y0)) ∧ s.tm 1 = .d (.c (.int .i64 L)) ∧ s.tm 5 = .sl 18 1 0 y0.length ∧ s.hp 18 = some (.ice 1 (li .i64 y0)) ∧ s.tm 6 = .d (.lst 1 (li .i64 (lensL y0 L))) ∧ s.tm 7 = .d (.c (.int .i64 0)) ∧ s.tm 8 = .d (.c (.int .i64 n)) ∧ s.tm 52 = .d (.c (.int .i64 y0.length)) ∧ s.tm 53 = .d (.c (.int .i64 k))) (fun s => y0.length - (avN (s.tm 53)).toNat) ?_ ?_
    · refine ⟨0, Nat.zero_le _, ?_⟩
      simp -dsimp -implicitDefEqProofs (disch := first | omega | (simp only [List.length_append, List.length_cons, List.length_nil, List.length_take, List.length_drop]; omega)) only [Int.natCast_zero, ↓aPre, aPost, oneW, allOne, retV, retVA, simprocAttr]
    rintro s ⟨k, hk, hs⟩
    by_cases hlt : k < y0.length
    · obtain ⟨z, hz⟩ : ∃ z, z = y0.getD k 0 := ⟨_, rfl⟩
      simp -dsimp -implicitDefEqProofs (disch := first | omega | (simp only [List.length_append, List.length_cons, List.length_nil, List.length_take, List.length_drop]; omega)) only [hs, hll, ← hz, ibne_f, ↓aPre, aPost, oneW, allOne, retV, retVA, simprocAttr]
      refine round_of ⟨k + 1, by omega, ?_⟩ ?_
      · simp -dsimp -implicitDefEqProofs (disch := first | omega | (simp only [List.length_append, List.length_cons, List.length_nil, List.length_take, List.length_drop]; omega)) only [hs, ↓aPre, aPost, oneW, allOne, retV, retVA, simprocAttr]
      · simp -dsimp -implicitDefEqProofs (disch := first | omega | (simp only [List.length_append, List.length_cons, List.length_nil, List.length_take, List.length_drop]; omega)) only [hs, ↓aPre, aPost, oneW, allOne, retV, retVA, simprocAttr]
        omega
    · obtain rfl : k = y0.length := by omega
      simp -dsimp -implicitDefEqProofs (disch := first | omega | (simp only [List.length_append, List.length_cons, List.length_nil, List.length_take, List.length_drop]; omega)) only [hs, ↓aPre, aPost, oneW, allOne, retV, retVA, simprocAttr]
      refine call_giv gs ?_
      by_cases c1 : n < 2
      · simp -dsimp -implicitDefEqProofs (disch := first | omega | (simp only [List.length_append, List.length_cons, List.length_nil, List.length_take, List.length_drop]; omega)) only [hs, ↓aPre, aPost, oneW, allOne, retV, retVA, simprocAttr]
        exact post_eq rfl
      by_cases c2 : n > 40
      · simp -dsimp -implicitDefEqProofs (disch := first | omega | (simp only [List.length_append, List.length_cons, List.length_nil, List.length_take, List.length_drop]; omega)) only [hs, ↓aPre, aPost, oneW, allOne, retV, retVA, simprocAttr]
        exact post_eq rfl
      obtain ⟨M, hM⟩ : ∃ M, M = min L n := ⟨_, rfl⟩
      have hm : (if (n : Int) < (L : Int) then (n : Int) else (L : Int)) = (M : Int) := by split <;> omega
      have gl := least_giv y0 (N := n) (L := M) g3 g4 hn (by omega) (by omega) (by omega) (by omega) (by
        rcases Nat.le_total L n with h | h
        · rw [hM, Nat.min_eq_left h, ← hP2]; exact g5
        · rw [hM, Nat.min_eq_right h]; exact Nat.le_of_lt Nat.lt_two_pow_self)
      have e : SS (sgs y0) M (2 * (n - 1)) = costL y0 L := by
        rw [costL_eq g4, ← hn, if_neg (by omega)]
        rcases Nat.le_total L n with h | h
        · rw [hM, Nat.min_eq_left h]
        · have := SS_same (sgs_sg y0) (k := n) (m := n - 1) (by omega) (by omega) (L - n)
          rw [hM, Nat.min_eq_right h, ← this]
          congr 1
          omega
      rw [e] at gl
      simp -dsimp -implicitDefEqProofs (disch := first | omega | (simp only [List.length_append, List.length_cons, List.length_nil, List.length_take, List.length_drop]; omega)) only [hs, ↓aPre, aPost, oneW, allOne, retV, retVA, simprocAttr]
      refine call_giv gco ?_
      simp -dsimp -implicitDefEqProofs (disch := first | omega | (simp only [List.length_append, List.length_cons, List.length_nil, List.length_take, List.length_drop]; omega)) only [hs, hm, ↓aPre, aPost, oneW, allOne, retV, retVA, simprocAttr]
      refine call_giv gl ?_
      simp -dsimp -implicitDefEqProofs (disch := first | omega | (simp only [List.length_append, List.length_cons, List.length_nil, List.length_take, List.length_drop]; omega)) only [ibeq_t, ↓aPre, aPost, oneW, allOne, retV, retVA, simprocAttr]
      exact post_eq rfl
  · have hcl : GoodL y0 → Giv Try.prog 10 [.lst 1 (li .i64 y0)] (retV [.lst 1 (li .i64 (wts (sgl y0 y0.length)))]) := fun _ => coming_giv y0 (by omega)
    refine call_giv g ?_
    rcases he with ⟨rfl, he⟩ | ⟨rfl, q1, q2, q3, q4, q5⟩
    · have gw : Giv Try.prog 9 [.lst 1 (li .i64 y0), .c (.int .i64 y1)] (retV [.c (.bool true)]) := by
        by_cases c : y1 < 1 ∨ y1 > 30 ∨ 300 < y0.length
        · exact wrong_arg y0 y1 c (by omega)
        · exact wrong_row y0 y1 (by omega) (by omega) (by omega) true (.inr ⟨rfl, by
            rcases he with h | h | h | h
            · omega
            · omega
            · omega
            · exact h⟩)
      simp -dsimp -implicitDefEqProofs (disch := first | omega | (simp only [List.length_append, List.length_cons, List.length_nil, List.length_take, List.length_drop]; omega)) only [hll, ↓aPre, aPost, oneW, allOne, retV, retVA, simprocAttr]
      refine call_giv gw ?_
      simp -dsimp -implicitDefEqProofs (disch := first | omega | (simp only [List.length_append, List.length_cons, List.length_nil, List.length_take, List.length_drop]; omega)) only [ibeq_t, ↓aPre, aPost, oneW, allOne, retV, retVA, simprocAttr]
      exact post_eq rfl
    · have gw := wrong_row y0 y1 (by omega) (by omega) (by omega) false (.inl ⟨rfl, q4⟩)
      obtain ⟨L, rfl⟩ : ∃ L : Nat, y1 = L := ⟨y1.toNat, by omega⟩
      have gc := coming_giv y0 (by omega)
      obtain ⟨n, hn⟩ : ∃ n, n = (sgs y0).length := ⟨_, rfl⟩
      have hn2 : (wts (sgl y0 y0.length)).length = n := by rw [wts_len, hn, sgs_len]
      have hln := li_length (k := .i64) (l := wts (sgl y0 y0.length))
      rw [hn2] at hln
      have hsh := shl1 L (by omega)
      rw [← hn, Int.toNat_natCast] at q5
      obtain ⟨P2, hP2⟩ : ∃ P2, P2 = 2 ^ L := ⟨_, rfl⟩
      rw [← hP2] at hsh q5
      simp -dsimp -implicitDefEqProofs (disch := first | omega | (simp only [List.length_append, List.length_cons, List.length_nil, List.length_take, List.length_drop]; omega)) only [hll, ↓aPre, aPost, oneW, allOne, retV, retVA, simprocAttr]
      refine call_giv gw ?_
      simp -dsimp -implicitDefEqProofs (disch := first | omega | (simp only [List.length_append, List.length_cons, List.length_nil, List.length_take, List.length_drop]; omega)) only [hll, ↓aPre, aPost, oneW, allOne, retV, retVA, simprocAttr]
      refine call_giv gc ?_
      simp -dsimp -implicitDefEqProofs (disch := first | omega | (simp only [List.length_append, List.length_cons, List.length_nil, List.length_take, List.length_drop]; omega)) only [hll, hln, hsh, ibeq_t, ↓aPre, aPost, oneW, allOne, retV, retVA, simprocAttr]
      exact post_eq rfl
end Go.Proofs.Ytlchakkdgkbabaa
