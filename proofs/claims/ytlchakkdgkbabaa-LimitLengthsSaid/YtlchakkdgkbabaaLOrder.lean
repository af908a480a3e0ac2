/- LimitOrder: the law's function gives true of all data. No condition but that whole numbers are of their kinds. -/
import Derived.Test.YtlchakkdgkbabaaWCost
set_option linter.unusedSimpArgs false
set_option linter.unusedVariables false
set_option maxRecDepth 8000
set_option maxHeartbeats 8000000
namespace Go.Proofs.Ytlchakkdgkbabaa
open Go.Eng Go.RowKit
theorem lens_any (of : List Int) (m : Int) (hn : of.length ≤ 100000000000000) :
    (∃ L : Nat, m = L ∧ 1 ≤ L ∧ L ≤ 30 ∧ of.length ≤ 300 ∧ GoodL of ∧ (sgs of).length ≤ 2 ^ L ∧ Giv Try.prog 8 [.lst 1 (li .i64 of), .c (.int .i64 m)] (retV [.lst 1 (li .i64 (lensL of L)), .c (.int .i64 0)])) ∨
    (∃ e : Int, (e = 1 ∧ (m < 1 ∨ m > 30 ∨ 300 < of.length ∨ ¬ GoodL of) ∨ e = 5 ∧ 1 ≤ m ∧ m ≤ 30 ∧ of.length ≤ 300 ∧ GoodL of ∧ ¬ (sgs of).length ≤ 2 ^ m.toNat) ∧ Giv Try.prog 8 [.lst 1 (li .i64 of), .c (.int .i64 m)] (retV [.c (.slice none 0 0), .c (.int .i64 e)])) := by
  by_cases h : m < 1 ∨ m > 30 ∨ 300 < of.length
  · exact .inr ⟨1, .inl ⟨rfl, by rcases h with h | h | h; exact .inl h; exact .inr (.inl h); exact .inr (.inr (.inl h))⟩, lens_arg _ of.length m ⟨of, rfl, rfl⟩ h (by omega)⟩
  obtain ⟨L, rfl⟩ : ∃ L : Nat, m = L := ⟨m.toNat, by omega⟩
  by_cases hg : GoodL of
  · by_cases hc : (sgs of).length ≤ 2 ^ L
    · exact .inl ⟨L, rfl, by omega, by omega, by omega, hg, hc, lens_giv of L (by omega) (by omega) (by omega) hg hc⟩
    · exact .inr ⟨5, .inr ⟨rfl, by omega, by omega, by omega, hg, by simpa using hc⟩, lens_long of L (by omega) (by omega) (by omega) hg hc⟩
  · exact .inr ⟨1, .inl ⟨rfl, .inr (.inr (.inr hg))⟩, lens_neg of L (by omega) (by omega) (by omega) hg⟩
theorem lensF_order {of : List Int} {L i k : Nat} (hc : (sgs of).length ≤ 2 ^ L) (hi : i < of.length) (hk : k < of.length) (h : of.getD k 0 < of.getD i 0) (hp : 0 < of.getD k 0) : lensF of L i ≤ lensF of L k := by
  unfold lensF
  by_cases e : (sgs of).length = 1
  · rw [if_pos e, if_pos e, if_pos hp, if_pos (by omega)]
    exact Nat.le_refl _
  · have := sgs_some hk hp
    rw [if_neg e, if_neg e]
    exact lenF_order (by omega) hc hi hk h hp
theorem limitOrder_giv (y0 : List Int) (h0 : (y0.length * 8 ≤ 140737488351232 ∧ ∀ z ∈ y0, -9223372036854775808 ≤ z ∧ z ≤ 9223372036854775807)) (y1 : Int) (h1 : (-9223372036854775808 ≤ y1 ∧ y1 ≤ 9223372036854775807)) : Giv Try.prog 5 [.lst 1 (li .i64 y0), .c (.int .i64 y1)] (.d (.c (.bool true))) := by
  show Giv Try.prog 5 [.lst 1 (li .i64 y0), .c (.int .i64 y1)] (retV [.c (.bool true)])
  have hll := li_length (k := .i64) (l := y0)
  refine Giv.of mixed c5 (Nat.le_of_ble_eq_true rfl) ?_
  by_cases hbig : y0.length > 100
  · simp -dsimp -implicitDefEqProofs (disch := first | omega | (simp only [List.length_append, List.length_cons, List.length_nil, List.length_take, List.length_drop]; omega)) only [a5, ↓aPre, aPost, oneW, allOne, retV, retVA, simprocAttr]
    refine call_giv lives_giv ?_
    simp -dsimp -implicitDefEqProofs (disch := first | omega | (simp only [List.length_append, List.length_cons, List.length_nil, List.length_take, List.length_drop]; omega)) only [hll, ↓aPre, aPost, oneW, allOne, retV, retVA, simprocAttr]
    refine call_giv lives_giv ?_
    simp -dsimp -implicitDefEqProofs (disch := first | omega | (simp only [List.length_append, List.length_cons, List.length_nil, List.length_take, List.length_drop]; omega)) only [↓aPre, aPost, oneW, allOne, retV, retVA, simprocAttr]
    exact post_eq rfl
  rcases lens_any y0 y1 (by omega) with ⟨L, rfl, g1, g2, g3, g4, g5, g6⟩ | ⟨e, he, g⟩
  · have hl2 := lensL_len y0 L
    have hl3 := li_length (k := .i64) (l := lensL y0 L)
    rw [hl2] at hl3
    simp -dsimp -implicitDefEqProofs (disch := first | omega | (simp only [List.length_append, List.length_cons, List.length_nil, List.length_take, List.length_drop]; omega)) only [a5, ↓aPre, aPost, oneW, allOne, retV, retVA, simprocAttr]
    refine call_giv lives_giv ?_
    simp -dsimp -implicitDefEqProofs (disch := first | omega | (simp only [List.length_append, List.length_cons, List.length_nil, List.length_take, List.length_drop]; omega)) only [hll, ↓aPre, aPost, oneW, allOne, retV, retVA, simprocAttr]
    refine call_giv g6 ?_
    simp -dsimp -implicitDefEqProofs (disch := first | omega | (simp only [List.length_append, List.length_cons, List.length_nil, List.length_take, List.length_drop]; omega)) only [hll, ↓aPre, aPost, oneW, allOne, retV, retVA, simprocAttr]
    refine loop_of (fun s => ∃ i, i ≤ y0.length ∧ s.tm 30 = .d (.c (.int .i64 i)) ∧ s.tm 29 = .d (.c (.int .i64 y0.length)) ∧ s.tm 0 = .d (.lst 1 (li .i64 y0)) ∧ s.tm 5 = .d (.lst 1 (li .i64 (lensL y0 L)))) (fun s => y0.length - (avN (s.tm 30)).toNat) ?_ ?_
    · refine ⟨0, Nat.zero_le _, ?_⟩
      simp -dsimp -implicitDefEqProofs (disch := first | omega | (simp only [List.length_append, List.length_cons, List.length_nil, List.length_take, List.length_drop]; omega)) only [↓aPre, aPost, oneW, allOne, retV, retVA, simprocAttr]
    rintro s ⟨i, hi, hs⟩
    by_cases hlt : i < y0.length
    · have hs0 := hs
      simp -dsimp -implicitDefEqProofs (disch := first | omega | (simp only [List.length_append, List.length_cons, List.length_nil, List.length_take, List.length_drop]; omega)) only [hs, hll, ↓aPre, aPost, oneW, allOne, retV, retVA, simprocAttr]
      refine loop_of (fun s => ∃ k, k ≤ y0.length ∧ s.tm 35 = .d (.c (.int .i64 k)) ∧ s.tm 34 = .d (.c (.int .i64 y0.length)) ∧ s.tm 30 = .d (.c (.int .i64 i)) ∧ s.tm 7 = .d (.c (.int .i64 i)) ∧ s.tm 29 = .d (.c (.int .i64 y0.length)) ∧ s.tm 0 = .d (.lst 1 (li .i64 y0)) ∧ s.tm 5 = .d (.lst 1 (li .i64 (lensL y0 L)))) (fun s => y0.length - (avN (s.tm 35)).toNat) ?_ ?_
      · refine ⟨0, Nat.zero_le _, ?_⟩
        simp -dsimp -implicitDefEqProofs (disch := first | omega | (simp only [List.length_append, List.length_cons, List.length_nil, List.length_take, List.length_drop]; omega)) only [hs, ↓aPre, aPost, oneW, allOne, retV, retVA, simprocAttr]
      clear hs
      rintro s ⟨k, hk, hs⟩
      by_cases hlt2 : k < y0.length
      · have q1 := lensL_get (L := L) hlt
        have q2 := lensL_get (L := L) hlt2
        have q3 := lensF_order (L := L) g5 hlt hlt2
        obtain ⟨a, ha⟩ : ∃ a, a = y0.getD i 0 := ⟨_, rfl⟩
        obtain ⟨b, hb⟩ : ∃ b, b = y0.getD k 0 := ⟨_, rfl⟩
        rw [← ha, ← hb] at q3
        obtain ⟨u, hu⟩ : ∃ u, u = lensF y0 L i := ⟨_, rfl⟩
        obtain ⟨v, hv⟩ : ∃ v, v = lensF y0 L k := ⟨_, rfl⟩
        rw [← hu, ← hv] at q3
        rw [← hu] at q1
        rw [← hv] at q2
        by_cases c1 : a > b
        · by_cases c2 : b > 0
          · have c3 : ¬ (u : Int) > (v : Int) := by have := q3 c1 c2; omega
            simp -dsimp -implicitDefEqProofs (disch := first | omega | (simp only [List.length_append, List.length_cons, List.length_nil, List.length_take, List.length_drop]; omega)) only [hs, hll, hl2, hl3, ← ha, ← hb, q1, q2, c1, c2, c3, ↓aPre, aPost, oneW, allOne, retV, retVA, simprocAttr]
            refine round_of ⟨k + 1, by omega, ?_⟩ ?_
            · simp -dsimp -implicitDefEqProofs (disch := first | omega | (simp only [List.length_append, List.length_cons, List.length_nil, List.length_take, List.length_drop]; omega)) only [hs, ↓aPre, aPost, oneW, allOne, retV, retVA, simprocAttr]
            · simp -dsimp -implicitDefEqProofs (disch := first | omega | (simp only [List.length_append, List.length_cons, List.length_nil, List.length_take, List.length_drop]; omega)) only [hs, ↓aPre, aPost, oneW, allOne, retV, retVA, simprocAttr]
              omega
          · simp -dsimp -implicitDefEqProofs (disch := first | omega | (simp only [List.length_append, List.length_cons, List.length_nil, List.length_take, List.length_drop]; omega)) only [hs, hll, hl2, hl3, ← ha, ← hb, q1, q2, c1, c2, ↓aPre, aPost, oneW, allOne, retV, retVA, simprocAttr]
            refine round_of ⟨k + 1, by omega, ?_⟩ ?_
            · simp -dsimp -implicitDefEqProofs (disch := first | omega | (simp only [List.length_append, List.length_cons, List.length_nil, List.length_take, List.length_drop]; omega)) only [hs, ↓aPre, aPost, oneW, allOne, retV, retVA, simprocAttr]
            · simp -dsimp -implicitDefEqProofs (disch := first | omega | (simp only [List.length_append, List.length_cons, List.length_nil, List.length_take, List.length_drop]; omega)) only [hs, ↓aPre, aPost, oneW, allOne, retV, retVA, simprocAttr]
              omega
        · simp -dsimp -implicitDefEqProofs (disch := first | omega | (simp only [List.length_append, List.length_cons, List.length_nil, List.length_take, List.length_drop]; omega)) only [hs, hll, hl2, hl3, ← ha, ← hb, q1, q2, c1, ↓aPre, aPost, oneW, allOne, retV, retVA, simprocAttr]
          refine round_of ⟨k + 1, by omega, ?_⟩ ?_
          · simp -dsimp -implicitDefEqProofs (disch := first | omega | (simp only [List.length_append, List.length_cons, List.length_nil, List.length_take, List.length_drop]; omega)) only [hs, ↓aPre, aPost, oneW, allOne, retV, retVA, simprocAttr]
          · simp -dsimp -implicitDefEqProofs (disch := first | omega | (simp only [List.length_append, List.length_cons, List.length_nil, List.length_take, List.length_drop]; omega)) only [hs, ↓aPre, aPost, oneW, allOne, retV, retVA, simprocAttr]
            omega
      · simp -dsimp -implicitDefEqProofs (disch := first | omega | (simp only [List.length_append, List.length_cons, List.length_nil, List.length_take, List.length_drop]; omega)) only [hs, ↓aPre, aPost, oneW, allOne, retV, retVA, simprocAttr]
        refine round_of ⟨i + 1, by omega, ?_⟩ ?_
        · simp -dsimp -implicitDefEqProofs (disch := first | omega | (simp only [List.length_append, List.length_cons, List.length_nil, List.length_take, List.length_drop]; omega)) only [hs, ↓aPre, aPost, oneW, allOne, retV, retVA, simprocAttr]
        · simp -dsimp -implicitDefEqProofs (disch := first | omega | (simp only [List.length_append, List.length_cons, List.length_nil, List.length_take, List.length_drop]; omega)) only [hs, hs0, ↓aPre, aPost, oneW, allOne, retV, retVA, simprocAttr]
          omega
    · simp -dsimp -implicitDefEqProofs (disch := first | omega | (simp only [List.length_append, List.length_cons, List.length_nil, List.length_take, List.length_drop]; omega)) only [hs, ↓aPre, aPost, oneW, allOne, retV, retVA, simprocAttr]
      exact post_eq rfl
  · have hne : ¬ e = 0 := by omega
    simp -dsimp -implicitDefEqProofs (disch := first | omega | (simp only [List.length_append, List.length_cons, List.length_nil, List.length_take, List.length_drop]; omega)) only [a5, ↓aPre, aPost, oneW, allOne, retV, retVA, simprocAttr]
    refine call_giv lives_giv ?_
    simp -dsimp -implicitDefEqProofs (disch := first | omega | (simp only [List.length_append, List.length_cons, List.length_nil, List.length_take, List.length_drop]; omega)) only [hll, ↓aPre, aPost, oneW, allOne, retV, retVA, simprocAttr]
    refine call_giv g ?_
    simp -dsimp -implicitDefEqProofs (disch := first | omega | (simp only [List.length_append, List.length_cons, List.length_nil, List.length_take, List.length_drop]; omega)) only [hne, ↓aPre, aPost, oneW, allOne, retV, retVA, simprocAttr]
    exact post_eq rfl
end Go.Proofs.Ytlchakkdgkbabaa
