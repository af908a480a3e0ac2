/- ColourTurns: the law's function gives true of all data. No condition but that whole numbers are of their kinds. -/
import Derived.Test.YtdhcbaeglfdflaaLPixels
set_option linter.unusedSimpArgs false
set_option linter.unusedVariables false
set_option maxRecDepth 8000
set_option maxHeartbeats 4000000
namespace Go.Proofs.Ytdhcbaeglfdflaa
open Go.Eng Go.RowKit
theorem colourTurns_giv (y0 : Int) (h0 : (0 ≤ y0 ∧ y0 ≤ 4294967295)) (y1 : Int) (h1 : (-9223372036854775808 ≤ y1 ∧ y1 ≤ 9223372036854775807)) (y2 : Int) (h2 : (0 ≤ y2 ∧ y2 ≤ 255)) : Giv Try.prog 5 [.c (.int .u32 y0), .c (.int .i64 y1), .c (.int .u8 y2)] (.d (.c (.bool true))) := by
  refine Giv.of (out := [.c (.bool true)]) mixed c5 (Nat.le_of_ble_eq_true rfl) ?_
  obtain ⟨u, hu⟩ : ∃ u, IntKind.u64.wrap y1 = u := ⟨_, rfl⟩
  have hu0 : 0 ≤ u := by rw [← hu]; simp [IntKind.wrap, IntKind.signed, IntKind.bits]; omega
  obtain ⟨q, hq⟩ : ∃ q, u % 32 = q := ⟨_, rfl⟩
  have hq2 : 0 ≤ q ∧ q < 32 := by omega
  have hum : u.tmod 32 = q := by rw [Int.tmod_eq_emod_of_nonneg hu0, hq]
  obtain ⟨w, hw⟩ : ∃ w, w = 1 + q := ⟨_, rfl⟩
  obtain ⟨t, t1, t2, t3, t4, t5, t6⟩ := topW_b (w := w) (by omega)
  have hand : bits .and .u64 y0 (t - 1) = y0 % t := by
    rw [u64_and y0 (t - 1) h0.1 (by omega) (by omega) (by omega)]
    obtain ⟨n, hn⟩ := Int.eq_ofNat_of_zero_le (show 0 ≤ w by omega)
    have ht : t = ((2 ^ n : Nat) : Int) := by rw [← t1, hn, Int.toNat_natCast, Int.natCast_pow]; rfl
    obtain ⟨y, rfl⟩ := Int.eq_ofNat_of_zero_le h0.1
    have hp : 0 < 2 ^ n := Nat.pow_pos (by decide)
    have e : (t - 1).toNat = 2 ^ n - 1 := by rw [ht]; omega
    rw [e, Nat.and_two_pow_sub_one_eq_mod, ht, Int.toNat_natCast, Int.natCast_emod]
  obtain ⟨v, hv⟩ : ∃ v, y0 % t = v := ⟨_, rfl⟩
  rw [hv] at hand
  have hvb : 0 ≤ v ∧ v < t := by rw [← hv]; exact ⟨Int.emod_nonneg _ (by omega), Int.emod_lt_of_pos _ (by omega)⟩
  have hE : scE v w = 0 := by rw [scE, if_neg (by omega), t4, if_neg (by omega)]
  have hsb := scV_b v w hvb.1
  obtain ⟨c, hc⟩ : ∃ c, scV v w = c := ⟨_, rfl⟩
  rw [hc] at hsb
  have hp1 : Px [v] w [] := ⟨by simp, In.one (by omega), by omega, by simp, In.nil _⟩
  have hp3 : Px [v, v, v] w [] := ⟨by simp, fun z hz => by simp at hz; omega, by omega, by simp, In.nil _⟩
  have x0 := pxv_0 [v] w [] hp1 (by simp) (fun i hi => by
    obtain rfl : i = 0 := by omega
    exact hE)
  have x1 := pxv_1 [v] w [] hp1 (by simp) (fun i hi => by
    obtain rfl : i = 0 := by omega
    exact hE)
  have x2 := pxv_2 [v, v, v] w [] hp3 (by simp) (fun i hi => by
    obtain rfl | rfl | rfl : i = 0 ∨ i = 1 ∨ i = 2 := by omega
    all_goals exact hE)
  rw [show ([v] : List Int).getD 0 0 = v from rfl, hc] at x0 x1
  rw [show ([v, v, v] : List Int).getD 0 0 = v from rfl, show ([v, v, v] : List Int).getD 1 0 = v from rfl, show ([v, v, v] : List Int).getD 2 0 = v from rfl, hc] at x2
  have x0 : Giv Try.prog 11 [.lst 1 (li .u32 [v]), .c (.int .i64 w), .c (.int .u64 0), .c (.slice none 0 0)] _ := Giv.le (by repeat (first | exact leD.nil | exact leE.refl _ | exact leE.nil _ | refine leD.cons ?_ ?_ | refine leE.agg ?_)) x0
  have x1 : Giv Try.prog 11 [.lst 1 (li .u32 [v]), .c (.int .i64 w), .c (.int .u64 1), .c (.slice none 0 0)] _ := Giv.le (by repeat (first | exact leD.nil | exact leE.refl _ | exact leE.nil _ | refine leD.cons ?_ ?_ | refine leE.agg ?_)) x1
  have x2 : Giv Try.prog 11 [.lst 1 (li .u32 [v, v, v]), .c (.int .i64 w), .c (.int .u64 2), .c (.slice none 0 0)] _ := Giv.le (by repeat (first | exact leD.nil | exact leE.refl _ | exact leE.nil _ | refine leD.cons ?_ ?_ | refine leE.agg ?_)) x2
  have hg := grey_giv y2 y2 y2 h2 h2 h2
  have hge : (299 * y2 + 587 * y2 + 114 * y2 + 500) / 1000 = y2 := by omega
  rw [hge] at hg
  have lst_three : ∀ {k : IntKind} {x y z : Int}, D.lst 1 [D.c (.int k x), D.c (.int k y), D.c (.int k z)] = D.lst 1 (li k [x, y, z]) := rfl
  simp -dsimp -implicitDefEqProofs (disch := first | omega | (simp only [List.length_append, List.length_cons, List.length_nil, List.length_take, List.length_drop]; omega)) only [a5, ↓aPre, aPost, oneW, allOne, retV, retVA, ↓reduceIte, reduceCtorEq, Nat.reduceAdd, Nat.reduceSub, Nat.reduceMul, Nat.reduceLT, Nat.reduceLeDiff, Nat.reduceEqDiff, Nat.reduceDiv, Nat.reduceMod, Nat.reducePow, Int.reduceAdd, Int.reduceSub, Int.reduceMul, Int.reduceLT, Int.reduceLE, Int.reduceEq, Int.reduceNe, Int.reducePow, Int.reduceToNat, Int.reduceNeg]
  refine call_giv lives_t ?_
  simp -dsimp -implicitDefEqProofs (disch := first | omega | (simp only [List.length_append, List.length_cons, List.length_nil, List.length_take, List.length_drop]; omega)) only [hu, hum, ← hw, t5, t1, Int.one_mul, hand, ↓aPre, aPost, oneW, allOne, retV, retVA, ↓reduceIte, reduceCtorEq, Nat.reduceAdd, Nat.reduceSub, Nat.reduceMul, Nat.reduceLT, Nat.reduceLeDiff, Nat.reduceEqDiff, Nat.reduceDiv, Nat.reduceMod, Nat.reducePow, Int.reduceAdd, Int.reduceSub, Int.reduceMul, Int.reduceLT, Int.reduceLE, Int.reduceEq, Int.reduceNe, Int.reducePow, Int.reduceToNat, Int.reduceNeg]
  refine call_giv x0 ?_
  simp -dsimp -implicitDefEqProofs (disch := first | omega | (simp only [List.length_append, List.length_cons, List.length_nil, List.length_take, List.length_drop]; omega)) only [rgb, ↓aPre, aPost, oneW, allOne, retV, retVA, ↓reduceIte, reduceCtorEq, Nat.reduceAdd, Nat.reduceSub, Nat.reduceMul, Nat.reduceLT, Nat.reduceLeDiff, Nat.reduceEqDiff, Nat.reduceDiv, Nat.reduceMod, Nat.reducePow, Int.reduceAdd, Int.reduceSub, Int.reduceMul, Int.reduceLT, Int.reduceLE, Int.reduceEq, Int.reduceNe, Int.reducePow, Int.reduceToNat, Int.reduceNeg]
  refine call_giv x1 ?_
  simp -dsimp -implicitDefEqProofs (disch := first | omega | (simp only [List.length_append, List.length_cons, List.length_nil, List.length_take, List.length_drop]; omega)) only [rgb, ↓aPre, aPost, oneW, allOne, retV, retVA, ↓reduceIte, reduceCtorEq, Nat.reduceAdd, Nat.reduceSub, Nat.reduceMul, Nat.reduceLT, Nat.reduceLeDiff, Nat.reduceEqDiff, Nat.reduceDiv, Nat.reduceMod, Nat.reducePow, Int.reduceAdd, Int.reduceSub, Int.reduceMul, Int.reduceLT, Int.reduceLE, Int.reduceEq, Int.reduceNe, Int.reducePow, Int.reduceToNat, Int.reduceNeg]
  refine call_giv hg ?_
  simp -dsimp -implicitDefEqProofs (disch := first | omega | (simp only [List.length_append, List.length_cons, List.length_nil, List.length_take, List.length_drop]; omega)) only [rgb, ↓aPre, aPost, oneW, allOne, retV, retVA, ↓reduceIte, reduceCtorEq, Nat.reduceAdd, Nat.reduceSub, Nat.reduceMul, Nat.reduceLT, Nat.reduceLeDiff, Nat.reduceEqDiff, Nat.reduceDiv, Nat.reduceMod, Nat.reducePow, Int.reduceAdd, Int.reduceSub, Int.reduceMul, Int.reduceLT, Int.reduceLE, Int.reduceEq, Int.reduceNe, Int.reducePow, Int.reduceToNat, Int.reduceNeg]
  refine loop_of (fun s => ∃ (k : Nat), k ≤ 3 ∧ s.tm 58 = .d (.c (.int .i64 k)) ∧ s.tm 0 = .d (.c (.int .u32 v)) ∧ s.tm 7 = .d (.c (.int .i64 w)) ∧ s.tm 8 = .ptr 8 0 ∧ s.hp 8 = some (.box [.d (.c (.int .u8 (255 - c))), .d (.c (.int .u8 (255 - c))), .d (.c (.int .u8 (255 - c)))]) ∧ s.tm 10 = .ptr 10 0 ∧ s.hp 10 = some (.box [.d (.c (.int .u8 c)), .d (.c (.int .u8 c)), .d (.c (.int .u8 c))])) (fun s => 3 - (avN (s.tm 58)).toNat) ?_ ?_
  · refine ⟨0, Nat.zero_le _, ?_⟩
    simp -dsimp -implicitDefEqProofs (disch := first | omega | (simp only [List.length_append, List.length_cons, List.length_nil, List.length_take, List.length_drop]; omega)) only [Int.natCast_zero, ↓aPre, aPost, oneW, allOne, retV, retVA, ↓reduceIte, reduceCtorEq, Nat.reduceAdd, Nat.reduceSub, Nat.reduceMul, Nat.reduceLT, Nat.reduceLeDiff, Nat.reduceEqDiff, Nat.reduceDiv, Nat.reduceMod, Nat.reducePow, Int.reduceAdd, Int.reduceSub, Int.reduceMul, Int.reduceLT, Int.reduceLE, Int.reduceEq, Int.reduceNe, Int.reducePow, Int.reduceToNat, Int.reduceNeg]
  rintro s ⟨k, hk, hs⟩
  by_cases hk3 : k < 3
  · obtain rfl | rfl | rfl : k = 0 ∨ k = 1 ∨ k = 2 := by omega
    all_goals
      simp -dsimp -implicitDefEqProofs (disch := first | omega | (simp only [List.length_append, List.length_cons, List.length_nil, List.length_take, List.length_drop]; omega)) only [hs, Int.natCast_zero, ↓aPre, aPost, oneW, allOne, retV, retVA, ↓reduceIte, reduceCtorEq, Nat.reduceAdd, Nat.reduceSub, Nat.reduceMul, Nat.reduceLT, Nat.reduceLeDiff, Nat.reduceEqDiff, Nat.reduceDiv, Nat.reduceMod, Nat.reducePow, Int.reduceAdd, Int.reduceSub, Int.reduceMul, Int.reduceLT, Int.reduceLE, Int.reduceEq, Int.reduceNe, Int.reducePow, Int.reduceToNat, Int.reduceNeg]
      refine round_of ⟨_ + 1, hk3, ?_⟩ ?_
      · simp -dsimp -implicitDefEqProofs (disch := first | omega | (simp only [List.length_append, List.length_cons, List.length_nil, List.length_take, List.length_drop]; omega)) only [hs, Nat.zero_add, ↓aPre, aPost, oneW, allOne, retV, retVA, ↓reduceIte, reduceCtorEq, Nat.reduceAdd, Nat.reduceSub, Nat.reduceMul, Nat.reduceLT, Nat.reduceLeDiff, Nat.reduceEqDiff, Nat.reduceDiv, Nat.reduceMod, Nat.reducePow, Int.reduceAdd, Int.reduceSub, Int.reduceMul, Int.reduceLT, Int.reduceLE, Int.reduceEq, Int.reduceNe, Int.reducePow, Int.reduceToNat, Int.reduceNeg]
      · simp -dsimp -implicitDefEqProofs (disch := first | omega | (simp only [List.length_append, List.length_cons, List.length_nil, List.length_take, List.length_drop]; omega)) only [hs, Int.natCast_zero, ↓aPre, aPost, oneW, allOne, retV, retVA, ↓reduceIte, reduceCtorEq, Nat.reduceAdd, Nat.reduceSub, Nat.reduceMul, Nat.reduceLT, Nat.reduceLeDiff, Nat.reduceEqDiff, Nat.reduceDiv, Nat.reduceMod, Nat.reducePow, Int.reduceAdd, Int.reduceSub, Int.reduceMul, Int.reduceLT, Int.reduceLE, Int.reduceEq, Int.reduceNe, Int.reducePow, Int.reduceToNat, Int.reduceNeg]
        try omega
  · obtain rfl : k = 3 := by omega
    have hk3' : ¬ ((3 : Nat) : Int) < 3 := by decide
    simp -dsimp -implicitDefEqProofs (disch := first | omega | (simp only [List.length_append, List.length_cons, List.length_nil, List.length_take, List.length_drop]; omega)) only [hs, hk3', lst_three, ↓aPre, aPost, oneW, allOne, retV, retVA, ↓reduceIte, reduceCtorEq, Nat.reduceAdd, Nat.reduceSub, Nat.reduceMul, Nat.reduceLT, Nat.reduceLeDiff, Nat.reduceEqDiff, Nat.reduceDiv, Nat.reduceMod, Nat.reducePow, Int.reduceAdd, Int.reduceSub, Int.reduceMul, Int.reduceLT, Int.reduceLE, Int.reduceEq, Int.reduceNe, Int.reducePow, Int.reduceToNat, Int.reduceNeg]
    refine call_giv x2 ?_
    simp -dsimp -implicitDefEqProofs (disch := first | omega | (simp only [List.length_append, List.length_cons, List.length_nil, List.length_take, List.length_drop]; omega)) only [hs, rgb, List.replicate_succ, List.replicate_zero, ↓aPre, aPost, oneW, allOne, retV, retVA, ↓reduceIte, reduceCtorEq, Nat.reduceAdd, Nat.reduceSub, Nat.reduceMul, Nat.reduceLT, Nat.reduceLeDiff, Nat.reduceEqDiff, Nat.reduceDiv, Nat.reduceMod, Nat.reducePow, Int.reduceAdd, Int.reduceSub, Int.reduceMul, Int.reduceLT, Int.reduceLE, Int.reduceEq, Int.reduceNe, Int.reducePow, Int.reduceToNat, Int.reduceNeg]
    exact post_eq rfl
end Go.Proofs.Ytdhcbaeglfdflaa
