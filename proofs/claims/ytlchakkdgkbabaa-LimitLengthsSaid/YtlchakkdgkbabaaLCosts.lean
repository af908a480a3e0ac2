/- LimitCosts: the law's function gives true of all data. No condition but that whole numbers are of their kinds. -/
import Derived.Test.YtlchakkdgkbabaaLRev
import Derived.Test.YtlchakkdgkbabaaLMore
set_option linter.unusedSimpArgs false
set_option linter.unusedVariables false
set_option maxRecDepth 8000
set_option maxHeartbeats 8000000
namespace Go.Proofs.Ytlchakkdgkbabaa
open Go.Eng Go.RowKit
theorem limitCosts_giv (y0 : List Int) (h0 : (y0.length * 8 ≤ 140737488351232 ∧ ∀ z ∈ y0, -9223372036854775808 ≤ z ∧ z ≤ 9223372036854775807)) (y1 : List Int) (h1 : (y1.length * 8 ≤ 140737488351232 ∧ ∀ z ∈ y1, -9223372036854775808 ≤ z ∧ z ≤ 9223372036854775807)) (y2 : Int) (h2 : (-9223372036854775808 ≤ y2 ∧ y2 ≤ 9223372036854775807)) : Giv Try.prog 4 [.lst 1 (li .i64 y0), .lst 1 (li .i64 y1), .c (.int .i64 y2)] (.d (.c (.bool true))) := by
  show Giv Try.prog 4 [.lst 1 (li .i64 y0), .lst 1 (li .i64 y1), .c (.int .i64 y2)] (retV [.c (.bool true)])
  have hll := li_length (k := .i64) (l := y0)
  have hlm := li_length (k := .i64) (l := y1)
  refine Giv.of mixed c4 (Nat.le_of_ble_eq_true rfl) ?_
  by_cases hb0 : y0.length > 60
  · simp -dsimp -implicitDefEqProofs (disch := first | omega | (simp only [List.length_append, List.length_cons, List.length_nil, List.length_take, List.length_drop]; omega)) only [a4, ↓aPre, aPost, oneW, allOne, retV, retVA, simprocAttr]
    refine call_giv lives_giv ?_
    simp -dsimp -implicitDefEqProofs (disch := first | omega | (simp only [List.length_append, List.length_cons, List.length_nil, List.length_take, List.length_drop]; omega)) only [hll, hlm, ↓aPre, aPost, oneW, allOne, retV, retVA, simprocAttr]
    refine call_giv lives_giv ?_
    simp -dsimp -implicitDefEqProofs (disch := first | omega | (simp only [List.length_append, List.length_cons, List.length_nil, List.length_take, List.length_drop]; omega)) only [↓aPre, aPost, oneW, allOne, retV, retVA, simprocAttr]
    exact post_eq rfl
  by_cases hb1 : y1.length > 60
  · simp -dsimp -implicitDefEqProofs (disch := first | omega | (simp only [List.length_append, List.length_cons, List.length_nil, List.length_take, List.length_drop]; omega)) only [a4, ↓aPre, aPost, oneW, allOne, retV, retVA, simprocAttr]
    refine call_giv lives_giv ?_
    simp -dsimp -implicitDefEqProofs (disch := first | omega | (simp only [List.length_append, List.length_cons, List.length_nil, List.length_take, List.length_drop]; omega)) only [hll, hlm, ↓aPre, aPost, oneW, allOne, retV, retVA, simprocAttr]
    refine call_giv lives_giv ?_
    simp -dsimp -implicitDefEqProofs (disch := first | omega | (simp only [List.length_append, List.length_cons, List.length_nil, List.length_take, List.length_drop]; omega)) only [↓aPre, aPost, oneW, allOne, retV, retVA, simprocAttr]
    exact post_eq rfl
  have hcost := cost_giv y0 y1 (by omega) (by omega)
  obtain ⟨n, hn⟩ : ∃ n, n = min y0.length y1.length := ⟨_, rfl⟩
  rw [← hn] at hcost
  simp -dsimp -implicitDefEqProofs (disch := first | omega | (simp only [List.length_append, List.length_cons, List.length_nil, List.length_take, List.length_drop]; omega)) only [a4, ↓aPre, aPost, oneW, allOne, retV, retVA, simprocAttr]
  refine call_giv lives_giv ?_
  simp -dsimp -implicitDefEqProofs (disch := first | omega | (simp only [List.length_append, List.length_cons, List.length_nil, List.length_take, List.length_drop]; omega)) only [hll, hlm, ↓aPre, aPost, oneW, allOne, retV, retVA, simprocAttr]
  refine loop_of (fun s => ∃ k, k ≤ n ∧ s.tm 0 = .d (.lst 1 (li .i64 y0)) ∧ s.tm 1 = .d (.lst 1 (li .i64 y1)) ∧ s.tm 2 = .d (.c (.int .i64 y2)) ∧ s.tm 8 = .d (.c (.int .i64 k)) ∧ s.tm 7 = .d (.c (.int .i64 (cstK y0 y1 k)))) (fun s => n - (avN (s.tm 8)).toNat) ?_ ?_
  · refine ⟨0, Nat.zero_le _, ?_⟩
    simp -dsimp -implicitDefEqProofs (disch := first | omega | (simp only [List.length_append, List.length_cons, List.length_nil, List.length_take, List.length_drop]; omega)) only [cstK, ↓aPre, aPost, oneW, allOne, retV, retVA, simprocAttr]
  rintro s ⟨k, hk, hs⟩
  by_cases hlt : k < n
  · obtain ⟨x, hx⟩ : ∃ x, x = y0.getD k 0 := ⟨_, rfl⟩
    obtain ⟨y, hy⟩ : ∃ y, y = y1.getD k 0 := ⟨_, rfl⟩
    obtain ⟨q, hq⟩ : ∃ q, q = cstK y0 y1 k := ⟨_, rfl⟩
    have e : cstK y0 y1 (k + 1) = IntKind.i64.wrap (q + IntKind.i64.wrap (x * y)) := by rw [cstK, ← hx, ← hy, ← hq]
    rw [← hq] at hs
    obtain ⟨p, hp⟩ : ∃ p, p = IntKind.i64.wrap (x * y) := ⟨_, rfl⟩
    rw [← hp] at e
    obtain ⟨r, hr⟩ : ∃ r, r = IntKind.i64.wrap (q + p) := ⟨_, rfl⟩
    rw [← hr] at e
    simp -dsimp -implicitDefEqProofs (disch := first | omega | (simp only [List.length_append, List.length_cons, List.length_nil, List.length_take, List.length_drop]; omega)) only [hs, hll, hlm, ← hx, ← hy, ← hp, ← hr, ↓aPre, aPost, oneW, allOne, retV, retVA, simprocAttr]
    refine round_of ⟨k + 1, by omega, ?_⟩ ?_
    · simp -dsimp -implicitDefEqProofs (disch := first | omega | (simp only [List.length_append, List.length_cons, List.length_nil, List.length_take, List.length_drop]; omega)) only [hs, e, ↓aPre, aPost, oneW, allOne, retV, retVA, simprocAttr]
    · simp -dsimp -implicitDefEqProofs (disch := first | omega | (simp only [List.length_append, List.length_cons, List.length_nil, List.length_take, List.length_drop]; omega)) only [hs, ↓aPre, aPost, oneW, allOne, retV, retVA, simprocAttr]
      omega
  obtain rfl : k = n := by omega
  have fin : ∀ (w : Int), w = cstK y0 y1 k → True := fun _ _ => trivial
  obtain ⟨w, hw⟩ : ∃ w, w = cstK y0 y1 k := ⟨_, rfl⟩
  rw [← hw] at hcost hs
  rcases lens_any y0 y2 (by omega) with ⟨L, rfl, g1, g2, g3, g4, g5, g6⟩ | ⟨e, he, g⟩
  · have hb := bck_good g4
    have hbs := bck_sgs y0
    have hbl : (bck y0 y0.length).length = y0.length := tab_len _ _
    have g7 := lens_giv (bck y0 y0.length) L g1 g2 (by omega) hb (by rw [hbs]; exact g5)
    have k1 := cost_of g1 g2 (by omega) hb (by rw [hbs]; exact g5)
    rw [cost_perm (bck_perm y0) g4 hb L] at k1
    have k2 := cost_of g1 g2 (by omega) g4 g5
    have lb := li_length (k := .i64) (l := bck y0 y0.length)
    rw [hbl] at lb
    have tkb : List.take y0.length (bck y0 y0.length) = bck y0 y0.length := List.take_of_length_le (by rw [hbl]; exact Nat.le_refl _)
    by_cases hlen : k < y0.length
    ·
      simp -dsimp -implicitDefEqProofs (disch := first | omega | (simp only [List.length_append, List.length_cons, List.length_nil, List.length_take, List.length_drop]; omega)) only [hs, hll, hlm, ↓aPre, aPost, oneW, allOne, retV, retVA, simprocAttr]
      refine call_giv hcost ?_
      simp -dsimp -implicitDefEqProofs (disch := first | omega | (simp only [List.length_append, List.length_cons, List.length_nil, List.length_take, List.length_drop]; omega)) only [hs, ↓aPre, aPost, oneW, allOne, retV, retVA, simprocAttr]
      refine call_giv g6 ?_
      simp -dsimp -implicitDefEqProofs (disch := first | omega | (simp only [List.length_append, List.length_cons, List.length_nil, List.length_take, List.length_drop]; omega)) only [hs, hll, ↓aPre, aPost, oneW, allOne, retV, retVA, simprocAttr]
      refine loop_nil 11 100 1 (fun s => ∃ j, j ≤ y0.length ∧ s.tm 71 = .d (.c (.int .i64 j)) ∧ s.tm 70 = .d (.c (.int .i64 y0.length)) ∧ s.tm 0 = .d (.lst 1 (li .i64 y0)) ∧ s.tm 2 = .d (.c (.int .i64 L)) ∧ s.tm 9 = .d (.lst 1 (li .i64 (lensL y0 L))) ∧ s.tm 11 = .sl 100 1 0 j ∧ s.hp 100 = some (.row 1 (li .i64 (bck y0 j)))) (fun s => y0.length - (avN (s.tm 71)).toNat) ?_ (by decide) ?_ ?_
      · simp -dsimp -implicitDefEqProofs (disch := first | omega | (simp only [List.length_append, List.length_cons, List.length_nil, List.length_take, List.length_drop]; omega)) only [hs, ↓aPre, aPost, oneW, allOne, retV, retVA, simprocAttr]
      · refine ⟨0, Nat.zero_le _, ?_⟩
        simp -dsimp -implicitDefEqProofs (disch := first | omega | (simp only [List.length_append, List.length_cons, List.length_nil, List.length_take, List.length_drop]; omega)) only [hs, bck, tab, ↓aPre, aPost, oneW, allOne, retV, retVA, simprocAttr]
      clear hs
      rintro s ⟨j, hj, hs⟩
      have t1 : (bck y0 j).length = j := tab_len _ _
      by_cases hlt2 : j < y0.length
      · have e1 : bck y0 j ++ [y0.getD (y0.length - 1 - j) 0] = bck y0 (j + 1) := tab_snoc (fun i => y0.getD (y0.length - 1 - i) 0) (n := j) rfl
        obtain ⟨t, ht⟩ : ∃ t, t = y0.length - 1 - j := ⟨_, rfl⟩
        have i1 : (y0.length : Int) - 1 - (j : Int) = (t : Int) := by omega
        rw [← ht] at e1
        obtain ⟨z, hz⟩ : ∃ z, z = y0.getD t 0 := ⟨_, rfl⟩
        rw [← hz] at e1
        simp -dsimp -implicitDefEqProofs (disch := first | omega | (simp only [List.length_append, List.length_cons, List.length_nil, List.length_take, List.length_drop]; omega)) only [hs, hll, i1, ← hz, t1, ↓aPre, aPost, oneW, allOne, retV, retVA, simprocAttr]
        refine round_of ⟨j + 1, by omega, ?_⟩ ?_
        · simp -dsimp -implicitDefEqProofs (disch := first | omega | (simp only [List.length_append, List.length_cons, List.length_nil, List.length_take, List.length_drop]; omega)) only [hs, e1, ↓aPre, aPost, oneW, allOne, retV, retVA, simprocAttr]
        · simp -dsimp -implicitDefEqProofs (disch := first | omega | (simp only [List.length_append, List.length_cons, List.length_nil, List.length_take, List.length_drop]; omega)) only [hs, ↓aPre, aPost, oneW, allOne, retV, retVA, simprocAttr]
          omega
      obtain rfl : j = y0.length := by omega
      by_cases hL : L = 30
      · have g8 := lens_arg (.lst 1 (li .i64 y0)) y0.length 31 ⟨y0, rfl, rfl⟩ (by omega) (by omega)
        subst hL
        simp -dsimp -implicitDefEqProofs (disch := first | omega | (simp only [List.length_append, List.length_cons, List.length_nil, List.length_take, List.length_drop]; omega)) only [hs, hll, lb, tkb, t1, ↓aPre, aPost, oneW, allOne, retV, retVA, simprocAttr]
        refine call_giv g7 ?_
        simp -dsimp -implicitDefEqProofs (disch := first | omega | (simp only [List.length_append, List.length_cons, List.length_nil, List.length_take, List.length_drop]; omega)) only [hs, hll, lb, tkb, t1, ↓aPre, aPost, oneW, allOne, retV, retVA, simprocAttr]
        refine call_giv k1 ?_
        simp -dsimp -implicitDefEqProofs (disch := first | omega | (simp only [List.length_append, List.length_cons, List.length_nil, List.length_take, List.length_drop]; omega)) only [hs, hll, lb, tkb, t1, ↓aPre, aPost, oneW, allOne, retV, retVA, simprocAttr]
        refine call_giv k2 ?_
        simp -dsimp -implicitDefEqProofs (disch := first | omega | (simp only [List.length_append, List.length_cons, List.length_nil, List.length_take, List.length_drop]; omega)) only [hs, hll, ↓aPre, aPost, oneW, allOne, retV, retVA, simprocAttr]
        refine call_giv g8 ?_
        simp -dsimp -implicitDefEqProofs (disch := first | omega | (simp only [List.length_append, List.length_cons, List.length_nil, List.length_take, List.length_drop]; omega)) only [hs, ↓aPre, aPost, oneW, allOne, retV, retVA, simprocAttr]
        exact post_eq rfl
      · obtain ⟨L2, hL2⟩ : ∃ L2, L2 = L + 1 := ⟨_, rfl⟩
        have i2 : (L : Int) + 1 = (L2 : Int) := by omega
        have hc2 : (sgs y0).length ≤ 2 ^ L2 := Nat.le_trans g5 (Nat.pow_le_pow_right (by decide) (by omega))
        have g8 := lens_giv y0 L2 (by omega) (by omega) g3 g4 hc2
        have k3 := cost_of (L := L2) (by omega) (by omega) g3 g4 hc2
        have b2 := cost_anti g4 g5
        rw [← hL2] at b2
        obtain ⟨u, hu⟩ : ∃ u, u = costL y0 L := ⟨_, rfl⟩
        obtain ⟨v, hv⟩ : ∃ v, v = costL y0 L2 := ⟨_, rfl⟩
        rw [← hu] at k1 k2 b2
        rw [← hv] at k3 b2
        simp -dsimp -implicitDefEqProofs (disch := first | omega | (simp only [List.length_append, List.length_cons, List.length_nil, List.length_take, List.length_drop]; omega)) only [hs, hll, lb, tkb, t1, ↓aPre, aPost, oneW, allOne, retV, retVA, simprocAttr]
        refine call_giv g7 ?_
        simp -dsimp -implicitDefEqProofs (disch := first | omega | (simp only [List.length_append, List.length_cons, List.length_nil, List.length_take, List.length_drop]; omega)) only [hs, hll, lb, tkb, t1, ↓aPre, aPost, oneW, allOne, retV, retVA, simprocAttr]
        refine call_giv k1 ?_
        simp -dsimp -implicitDefEqProofs (disch := first | omega | (simp only [List.length_append, List.length_cons, List.length_nil, List.length_take, List.length_drop]; omega)) only [hs, hll, lb, tkb, t1, ↓aPre, aPost, oneW, allOne, retV, retVA, simprocAttr]
        refine call_giv k2 ?_
        simp -dsimp -implicitDefEqProofs (disch := first | omega | (simp only [List.length_append, List.length_cons, List.length_nil, List.length_take, List.length_drop]; omega)) only [hs, hll, i2, ↓aPre, aPost, oneW, allOne, retV, retVA, simprocAttr]
        refine call_giv g8 ?_
        simp -dsimp -implicitDefEqProofs (disch := first | omega | (simp only [List.length_append, List.length_cons, List.length_nil, List.length_take, List.length_drop]; omega)) only [hs, ↓aPre, aPost, oneW, allOne, retV, retVA, simprocAttr]
        refine call_giv k3 ?_
        simp -dsimp -implicitDefEqProofs (disch := first | omega | (simp only [List.length_append, List.length_cons, List.length_nil, List.length_take, List.length_drop]; omega)) only [hs, ↓aPre, aPost, oneW, allOne, retV, retVA, simprocAttr]
        refine call_giv k2 ?_
        simp -dsimp -implicitDefEqProofs (disch := first | omega | (simp only [List.length_append, List.length_cons, List.length_nil, List.length_take, List.length_drop]; omega)) only [hs, b2, ↓aPre, aPost, oneW, allOne, retV, retVA, simprocAttr]
        exact post_eq rfl
    ·
      simp -dsimp -implicitDefEqProofs (disch := first | omega | (simp only [List.length_append, List.length_cons, List.length_nil, List.length_take, List.length_drop]; omega)) only [hs, hll, hlm, ↓aPre, aPost, oneW, allOne, retV, retVA, simprocAttr]
      refine call_giv hcost ?_
      simp -dsimp -implicitDefEqProofs (disch := first | omega | (simp only [List.length_append, List.length_cons, List.length_nil, List.length_take, List.length_drop]; omega)) only [hs, ↓aPre, aPost, oneW, allOne, retV, retVA, simprocAttr]
      refine call_giv g6 ?_
      simp -dsimp -implicitDefEqProofs (disch := first | omega | (simp only [List.length_append, List.length_cons, List.length_nil, List.length_take, List.length_drop]; omega)) only [hs, hll, ↓aPre, aPost, oneW, allOne, retV, retVA, simprocAttr]
      refine loop_nil 11 100 1 (fun s => ∃ j, j ≤ y0.length ∧ s.tm 71 = .d (.c (.int .i64 j)) ∧ s.tm 70 = .d (.c (.int .i64 y0.length)) ∧ s.tm 0 = .d (.lst 1 (li .i64 y0)) ∧ s.tm 2 = .d (.c (.int .i64 L)) ∧ s.tm 9 = .d (.lst 1 (li .i64 (lensL y0 L))) ∧ s.tm 11 = .sl 100 1 0 j ∧ s.hp 100 = some (.row 1 (li .i64 (bck y0 j)))) (fun s => y0.length - (avN (s.tm 71)).toNat) ?_ (by decide) ?_ ?_
      · simp -dsimp -implicitDefEqProofs (disch := first | omega | (simp only [List.length_append, List.length_cons, List.length_nil, List.length_take, List.length_drop]; omega)) only [hs, ↓aPre, aPost, oneW, allOne, retV, retVA, simprocAttr]
      · refine ⟨0, Nat.zero_le _, ?_⟩
        simp -dsimp -implicitDefEqProofs (disch := first | omega | (simp only [List.length_append, List.length_cons, List.length_nil, List.length_take, List.length_drop]; omega)) only [hs, bck, tab, ↓aPre, aPost, oneW, allOne, retV, retVA, simprocAttr]
      clear hs
      rintro s ⟨j, hj, hs⟩
      have t1 : (bck y0 j).length = j := tab_len _ _
      by_cases hlt2 : j < y0.length
      · have e1 : bck y0 j ++ [y0.getD (y0.length - 1 - j) 0] = bck y0 (j + 1) := tab_snoc (fun i => y0.getD (y0.length - 1 - i) 0) (n := j) rfl
        obtain ⟨t, ht⟩ : ∃ t, t = y0.length - 1 - j := ⟨_, rfl⟩
        have i1 : (y0.length : Int) - 1 - (j : Int) = (t : Int) := by omega
        rw [← ht] at e1
        obtain ⟨z, hz⟩ : ∃ z, z = y0.getD t 0 := ⟨_, rfl⟩
        rw [← hz] at e1
        simp -dsimp -implicitDefEqProofs (disch := first | omega | (simp only [List.length_append, List.length_cons, List.length_nil, List.length_take, List.length_drop]; omega)) only [hs, hll, i1, ← hz, t1, ↓aPre, aPost, oneW, allOne, retV, retVA, simprocAttr]
        refine round_of ⟨j + 1, by omega, ?_⟩ ?_
        · simp -dsimp -implicitDefEqProofs (disch := first | omega | (simp only [List.length_append, List.length_cons, List.length_nil, List.length_take, List.length_drop]; omega)) only [hs, e1, ↓aPre, aPost, oneW, allOne, retV, retVA, simprocAttr]
        · simp -dsimp -implicitDefEqProofs (disch := first | omega | (simp only [List.length_append, List.length_cons, List.length_nil, List.length_take, List.length_drop]; omega)) only [hs, ↓aPre, aPost, oneW, allOne, retV, retVA, simprocAttr]
          omega
      obtain rfl : j = y0.length := by omega
      by_cases hL : L = 30
      · have g8 := lens_arg (.lst 1 (li .i64 y0)) y0.length 31 ⟨y0, rfl, rfl⟩ (by omega) (by omega)
        subst hL
        simp -dsimp -implicitDefEqProofs (disch := first | omega | (simp only [List.length_append, List.length_cons, List.length_nil, List.length_take, List.length_drop]; omega)) only [hs, hll, lb, tkb, t1, ↓aPre, aPost, oneW, allOne, retV, retVA, simprocAttr]
        refine call_giv g7 ?_
        simp -dsimp -implicitDefEqProofs (disch := first | omega | (simp only [List.length_append, List.length_cons, List.length_nil, List.length_take, List.length_drop]; omega)) only [hs, hll, lb, tkb, t1, ↓aPre, aPost, oneW, allOne, retV, retVA, simprocAttr]
        refine call_giv k1 ?_
        simp -dsimp -implicitDefEqProofs (disch := first | omega | (simp only [List.length_append, List.length_cons, List.length_nil, List.length_take, List.length_drop]; omega)) only [hs, hll, lb, tkb, t1, ↓aPre, aPost, oneW, allOne, retV, retVA, simprocAttr]
        refine call_giv k2 ?_
        simp -dsimp -implicitDefEqProofs (disch := first | omega | (simp only [List.length_append, List.length_cons, List.length_nil, List.length_take, List.length_drop]; omega)) only [hs, hll, ↓aPre, aPost, oneW, allOne, retV, retVA, simprocAttr]
        refine call_giv g8 ?_
        simp -dsimp -implicitDefEqProofs (disch := first | omega | (simp only [List.length_append, List.length_cons, List.length_nil, List.length_take, List.length_drop]; omega)) only [hs, ↓aPre, aPost, oneW, allOne, retV, retVA, simprocAttr]
        exact post_eq rfl
      · obtain ⟨L2, hL2⟩ : ∃ L2, L2 = L + 1 := ⟨_, rfl⟩
        have i2 : (L : Int) + 1 = (L2 : Int) := by omega
        have hc2 : (sgs y0).length ≤ 2 ^ L2 := Nat.le_trans g5 (Nat.pow_le_pow_right (by decide) (by omega))
        have g8 := lens_giv y0 L2 (by omega) (by omega) g3 g4 hc2
        have k3 := cost_of (L := L2) (by omega) (by omega) g3 g4 hc2
        have b2 := cost_anti g4 g5
        rw [← hL2] at b2
        obtain ⟨u, hu⟩ : ∃ u, u = costL y0 L := ⟨_, rfl⟩
        obtain ⟨v, hv⟩ : ∃ v, v = costL y0 L2 := ⟨_, rfl⟩
        rw [← hu] at k1 k2 b2
        rw [← hv] at k3 b2
        simp -dsimp -implicitDefEqProofs (disch := first | omega | (simp only [List.length_append, List.length_cons, List.length_nil, List.length_take, List.length_drop]; omega)) only [hs, hll, lb, tkb, t1, ↓aPre, aPost, oneW, allOne, retV, retVA, simprocAttr]
        refine call_giv g7 ?_
        simp -dsimp -implicitDefEqProofs (disch := first | omega | (simp only [List.length_append, List.length_cons, List.length_nil, List.length_take, List.length_drop]; omega)) only [hs, hll, lb, tkb, t1, ↓aPre, aPost, oneW, allOne, retV, retVA, simprocAttr]
        refine call_giv k1 ?_
        simp -dsimp -implicitDefEqProofs (disch := first | omega | (simp only [List.length_append, List.length_cons, List.length_nil, List.length_take, List.length_drop]; omega)) only [hs, hll, lb, tkb, t1, ↓aPre, aPost, oneW, allOne, retV, retVA, simprocAttr]
        refine call_giv k2 ?_
        simp -dsimp -implicitDefEqProofs (disch := first | omega | (simp only [List.length_append, List.length_cons, List.length_nil, List.length_take, List.length_drop]; omega)) only [hs, hll, i2, ↓aPre, aPost, oneW, allOne, retV, retVA, simprocAttr]
        refine call_giv g8 ?_
        simp -dsimp -implicitDefEqProofs (disch := first | omega | (simp only [List.length_append, List.length_cons, List.length_nil, List.length_take, List.length_drop]; omega)) only [hs, ↓aPre, aPost, oneW, allOne, retV, retVA, simprocAttr]
        refine call_giv k3 ?_
        simp -dsimp -implicitDefEqProofs (disch := first | omega | (simp only [List.length_append, List.length_cons, List.length_nil, List.length_take, List.length_drop]; omega)) only [hs, ↓aPre, aPost, oneW, allOne, retV, retVA, simprocAttr]
        refine call_giv k2 ?_
        simp -dsimp -implicitDefEqProofs (disch := first | omega | (simp only [List.length_append, List.length_cons, List.length_nil, List.length_take, List.length_drop]; omega)) only [hs, b2, ↓aPre, aPost, oneW, allOne, retV, retVA, simprocAttr]
        exact post_eq rfl
  · have hne : ¬ e = 0 := by omega
    by_cases hlen : k < y0.length
    · simp -dsimp -implicitDefEqProofs (disch := first | omega | (simp only [List.length_append, List.length_cons, List.length_nil, List.length_take, List.length_drop]; omega)) only [hs, hll, hlm, ↓aPre, aPost, oneW, allOne, retV, retVA, simprocAttr]
      refine call_giv hcost ?_
      simp -dsimp -implicitDefEqProofs (disch := first | omega | (simp only [List.length_append, List.length_cons, List.length_nil, List.length_take, List.length_drop]; omega)) only [hs, ↓aPre, aPost, oneW, allOne, retV, retVA, simprocAttr]
      refine call_giv g ?_
      simp -dsimp -implicitDefEqProofs (disch := first | omega | (simp only [List.length_append, List.length_cons, List.length_nil, List.length_take, List.length_drop]; omega)) only [hs, hne, ↓aPre, aPost, oneW, allOne, retV, retVA, simprocAttr]
      exact post_eq rfl
    · simp -dsimp -implicitDefEqProofs (disch := first | omega | (simp only [List.length_append, List.length_cons, List.length_nil, List.length_take, List.length_drop]; omega)) only [hs, hll, hlm, ↓aPre, aPost, oneW, allOne, retV, retVA, simprocAttr]
      refine call_giv hcost ?_
      simp -dsimp -implicitDefEqProofs (disch := first | omega | (simp only [List.length_append, List.length_cons, List.length_nil, List.length_take, List.length_drop]; omega)) only [hs, ↓aPre, aPost, oneW, allOne, retV, retVA, simprocAttr]
      refine call_giv g ?_
      simp -dsimp -implicitDefEqProofs (disch := first | omega | (simp only [List.length_append, List.length_cons, List.length_nil, List.length_take, List.length_drop]; omega)) only [hs, hne, ↓aPre, aPost, oneW, allOne, retV, retVA, simprocAttr]
      exact post_eq rfl
end Go.Proofs.Ytlchakkdgkbabaa
