/- The cost of any lengths; the chapter's example. No condition but what each says. -/
import Derived.Test.YtlchakkdgkbabaaWLens
set_option linter.unusedSimpArgs false
set_option linter.unusedVariables false
set_option maxRecDepth 8000
set_option maxHeartbeats 8000000
namespace Go.Proofs.Ytlchakkdgkbabaa
open Go.Eng Go.RowKit
theorem cost_giv (a b : List Int) (ha : a.length ≤ 100000000000000) (hb : b.length ≤ 100000000000000) : Giv Try.prog 12 [.lst 1 (li .i64 a), .lst 1 (li .i64 b)] (retV [.c (.int .i64 (cstK a b (min a.length b.length)))]) := by
  have h1 := li_length (k := .i64) (l := a)
  have h2 := li_length (k := .i64) (l := b)
  refine Giv.of mixed c12 (Nat.le_of_ble_eq_true rfl) ?_
  obtain ⟨m, hm⟩ : ∃ m, m = min a.length b.length := ⟨_, rfl⟩
  have i1 : (if (b.length : Int) < (a.length : Int) then (b.length : Int) else (a.length : Int)) = (m : Int) := by split <;> omega
  rw [← hm]
  simp -dsimp -implicitDefEqProofs (disch := first | omega | (simp only [List.length_append, List.length_cons, List.length_nil, List.length_take, List.length_drop]; omega)) only [a12, h1, h2, i1, ↓aPre, aPost, oneW, allOne, retV, retVA, simprocAttr]
  refine loop_of (fun s => ∃ k, k ≤ m ∧ s.tm 0 = .d (.lst 1 (li .i64 a)) ∧ s.tm 1 = .d (.lst 1 (li .i64 b)) ∧ s.tm 11 = .d (.c (.int .i64 m)) ∧ s.tm 12 = .d (.c (.int .i64 k)) ∧ s.tm 5 = .d (.c (.int .i64 (cstK a b k)))) (fun s => m - (avN (s.tm 12)).toNat) ?_ ?_
  · refine ⟨0, Nat.zero_le _, ?_⟩
    simp -dsimp -implicitDefEqProofs (disch := first | omega | (simp only [List.length_append, List.length_cons, List.length_nil, List.length_take, List.length_drop]; omega)) only [cstK, ↓aPre, aPost, oneW, allOne, retV, retVA, simprocAttr]
  rintro s ⟨k, hk, hs⟩
  by_cases hlt : k < m
  · obtain ⟨x, hx⟩ : ∃ x, x = a.getD k 0 := ⟨_, rfl⟩
    obtain ⟨y, hy⟩ : ∃ y, y = b.getD k 0 := ⟨_, rfl⟩
    obtain ⟨q, hq⟩ : ∃ q, q = cstK a b k := ⟨_, rfl⟩
    have e : cstK a b (k + 1) = IntKind.i64.wrap (q + IntKind.i64.wrap (x * y)) := by rw [cstK, ← hx, ← hy, ← hq]
    rw [← hq] at hs
    obtain ⟨p, hp⟩ : ∃ p, p = IntKind.i64.wrap (x * y) := ⟨_, rfl⟩
    rw [← hp] at e
    obtain ⟨r, hr⟩ : ∃ r, r = IntKind.i64.wrap (q + p) := ⟨_, rfl⟩
    rw [← hr] at e
    simp -dsimp -implicitDefEqProofs (disch := first | omega | (simp only [List.length_append, List.length_cons, List.length_nil, List.length_take, List.length_drop]; omega)) only [hs, h1, h2, ← hx, ← hy, ← hp, ← hr, ↓aPre, aPost, oneW, allOne, retV, retVA, simprocAttr]
    refine round_of ⟨k + 1, by omega, ?_⟩ ?_
    · simp -dsimp -implicitDefEqProofs (disch := first | omega | (simp only [List.length_append, List.length_cons, List.length_nil, List.length_take, List.length_drop]; omega)) only [hs, e, ↓aPre, aPost, oneW, allOne, retV, retVA, simprocAttr]
    · simp -dsimp -implicitDefEqProofs (disch := first | omega | (simp only [List.length_append, List.length_cons, List.length_nil, List.length_take, List.length_drop]; omega)) only [hs, ↓aPre, aPost, oneW, allOne, retV, retVA, simprocAttr]
      omega
  · obtain rfl : k = m := by omega
    simp -dsimp -implicitDefEqProofs (disch := first | omega | (simp only [List.length_append, List.length_cons, List.length_nil, List.length_take, List.length_drop]; omega)) only [hs, ↓aPre, aPost, oneW, allOne, retV, retVA, simprocAttr]
    exact post_eq rfl
theorem ex_good : GoodL [8, 4, 2, 1] := by
  intro i hi
  match i, hi with
  | 0, _ => decide
  | 1, _ => decide
  | 2, _ => decide
  | 3, _ => decide
theorem ex_sgs : sgs [8, 4, 2, 1] = [(1, [3]), (2, [2]), (4, [1]), (8, [0])] := by
  simp [sgs, sgl, stab, mrg]
theorem ex_4 : lensL [8, 4, 2, 1] 4 = [1, 2, 3, 3] := by
  simp [lensL, ex_sgs, pk, LL, prs, mrg, its, cntL, tab]
theorem ex_2 : lensL [8, 4, 2, 1] 2 = [2, 2, 2, 2] := by
  simp [lensL, ex_sgs, pk, LL, prs, mrg, its, cntL, tab]
theorem lives_giv : Giv Try.prog 7 [] (retV [.c (.bool true)]) := by
  have g1 := lens_giv [8, 4, 2, 1] 4 (by decide) (by decide) (by decide) ex_good (by rw [ex_sgs]; decide)
  have g2 := lens_giv [8, 4, 2, 1] 2 (by decide) (by decide) (by decide) ex_good (by rw [ex_sgs]; decide)
  have g3 := cost_giv [8, 4, 2, 1] [1, 2, 3, 3] (by decide) (by decide)
  have g4 := cost_giv [8, 4, 2, 1] [2, 2, 2, 2] (by decide) (by decide)
  rw [show cstK [8, 4, 2, 1] [1, 2, 3, 3] (min ([8, 4, 2, 1] : List Int).length ([1, 2, 3, 3] : List Int).length) = 25 by decide] at g3
  rw [show cstK [8, 4, 2, 1] [2, 2, 2, 2] (min ([8, 4, 2, 1] : List Int).length ([2, 2, 2, 2] : List Int).length) = 30 by decide] at g4
  rw [ex_4] at g1
  rw [ex_2] at g2
  refine Giv.of mixed c7 (Nat.le_of_ble_eq_true rfl) ?_
  simp -dsimp -implicitDefEqProofs (disch := first | omega | (simp only [List.length_append, List.length_cons, List.length_nil, List.length_take, List.length_drop]; omega)) only [a7, ↓aPre, aPost, oneW, allOne, retV, retVA, simprocAttr]
  refine call_giv g1 ?_
  simp -dsimp -implicitDefEqProofs (disch := first | omega | (simp only [List.length_append, List.length_cons, List.length_nil, List.length_take, List.length_drop]; omega)) only [↓aPre, aPost, oneW, allOne, retV, retVA, simprocAttr]
  refine call_giv g2 ?_
  simp -dsimp -implicitDefEqProofs (disch := first | omega | (simp only [List.length_append, List.length_cons, List.length_nil, List.length_take, List.length_drop]; omega)) only [↓aPre, aPost, oneW, allOne, retV, retVA, simprocAttr]
  refine call_giv g3 ?_
  simp -dsimp -implicitDefEqProofs (disch := first | omega | (simp only [List.length_append, List.length_cons, List.length_nil, List.length_take, List.length_drop]; omega)) only [↓aPre, aPost, oneW, allOne, retV, retVA, simprocAttr]
  refine call_giv g4 ?_
  simp -dsimp -implicitDefEqProofs (disch := first | omega | (simp only [List.length_append, List.length_cons, List.length_nil, List.length_take, List.length_drop]; omega)) only [↓aPre, aPost, oneW, allOne, retV, retVA, simprocAttr]
  exact post_eq rfl
end Go.Proofs.Ytlchakkdgkbabaa
