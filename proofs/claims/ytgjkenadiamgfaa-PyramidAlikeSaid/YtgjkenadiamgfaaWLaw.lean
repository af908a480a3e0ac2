/- The law's own functions: the levels of a grid of any kind are the document's. No condition but what each says. -/
import Derived.Test.YtgjkenadiamgfaaWLevels
set_option linter.unusedSimpArgs false
set_option linter.unusedVariables false
set_option maxRecDepth 8000
set_option maxHeartbeats 4000000
namespace Go.Proofs.Ytgjkenadiamgfaa
open Go.Eng Go.RowKit
theorem levels_ok_u8 (w h most : Int) (l : List Int) (hl : l.length ≤ 300) (hI : In 256 l) : Giv Try.prog 10 [.c (.int .i64 w), .c (.int .i64 h), .c (.int .i64 most), .lst 1 (li .u8 l)] (retV [.c (.bool true)]) := by
  refine Giv.of mixed c10 (Nat.le_of_ble_eq_true rfl) ?_
  by_cases hok : 0 ≤ w ∧ 0 ≤ h ∧ w ≤ 40 ∧ h ≤ 40 ∧ 0 < l.length
  rotate_left
  · simp -dsimp -implicitDefEqProofs (disch := first | omega | (simp only [List.length_append, List.length_cons, List.length_nil, List.length_take, List.length_drop]; omega)) only [a10, ↓aPre, aPost, oneW, allOne, retV, retVA, ↓reduceIte, reduceCtorEq, Nat.reduceAdd, Nat.reduceSub, Nat.reduceMul, Nat.reduceLT, Nat.reduceLeDiff, Nat.reduceEqDiff, Nat.reduceDiv, Nat.reduceMod, Nat.reducePow, Int.reduceAdd, Int.reduceSub, Int.reduceMul, Int.reduceLT, Int.reduceLE, Int.reduceEq, Int.reduceNe, Int.reducePow, Int.reduceToNat, Int.reduceNeg]
    refine call_giv (of_f_u8 w h l (by omega) hok) ?_
    simp -dsimp -implicitDefEqProofs (disch := first | omega | (simp only [List.length_append, List.length_cons, List.length_nil, List.length_take, List.length_drop]; omega)) only [gD, ↓aPre, aPost, oneW, allOne, retV, retVA, ↓reduceIte, reduceCtorEq, Nat.reduceAdd, Nat.reduceSub, Nat.reduceMul, Nat.reduceLT, Nat.reduceLeDiff, Nat.reduceEqDiff, Nat.reduceDiv, Nat.reduceMod, Nat.reducePow, Int.reduceAdd, Int.reduceSub, Int.reduceMul, Int.reduceLT, Int.reduceLE, Int.reduceEq, Int.reduceNe, Int.reducePow, Int.reduceToNat, Int.reduceNeg]
    exact post_eq rfl
  obtain ⟨h1, h2, h3, h4, h5⟩ := hok
  obtain ⟨w, rfl⟩ := Int.eq_ofNat_of_zero_le h1
  obtain ⟨h, rfl⟩ := Int.eq_ofNat_of_zero_le h2
  have hw : w ≤ 40 := by omega
  have hh : h ≤ 40 := by omega
  have r : Rt 256 w h (cy l (w * h)) := cy_rt hI (by decide) hw hh
  obtain ⟨G, hG⟩ : ∃ G, G = cy l (w * h) := ⟨_, rfl⟩
  have hof := of_t_u8 hw hh h5 (by omega) hI
  rw [← hG] at r hof
  simp -dsimp -implicitDefEqProofs (disch := first | omega | (simp only [List.length_append, List.length_cons, List.length_nil, List.length_take, List.length_drop]; omega)) only [a10, ↓aPre, aPost, oneW, allOne, retV, retVA, ↓reduceIte, reduceCtorEq, Nat.reduceAdd, Nat.reduceSub, Nat.reduceMul, Nat.reduceLT, Nat.reduceLeDiff, Nat.reduceEqDiff, Nat.reduceDiv, Nat.reduceMod, Nat.reducePow, Int.reduceAdd, Int.reduceSub, Int.reduceMul, Int.reduceLT, Int.reduceLE, Int.reduceEq, Int.reduceNe, Int.reducePow, Int.reduceToNat, Int.reduceNeg]
  refine call_giv hof ?_
  by_cases hz : w = 0 ∨ h = 0
  · simp -dsimp -implicitDefEqProofs (disch := first | omega | (simp only [List.length_append, List.length_cons, List.length_nil, List.length_take, List.length_drop]; omega)) only [gD, ↓aPre, aPost, oneW, allOne, retV, retVA, ↓reduceIte, reduceCtorEq, Nat.reduceAdd, Nat.reduceSub, Nat.reduceMul, Nat.reduceLT, Nat.reduceLeDiff, Nat.reduceEqDiff, Nat.reduceDiv, Nat.reduceMod, Nat.reducePow, Int.reduceAdd, Int.reduceSub, Int.reduceMul, Int.reduceLT, Int.reduceLE, Int.reduceEq, Int.reduceNe, Int.reducePow, Int.reduceToNat, Int.reduceNeg]
    refine call_giv (levels_e_u8 r most (by omega)) ?_
    simp -dsimp -implicitDefEqProofs (disch := first | omega | (simp only [List.length_append, List.length_cons, List.length_nil, List.length_take, List.length_drop]; omega)) only [gD, ↓aPre, aPost, oneW, allOne, retV, retVA, ↓reduceIte, reduceCtorEq, Nat.reduceAdd, Nat.reduceSub, Nat.reduceMul, Nat.reduceLT, Nat.reduceLeDiff, Nat.reduceEqDiff, Nat.reduceDiv, Nat.reduceMod, Nat.reducePow, Int.reduceAdd, Int.reduceSub, Int.reduceMul, Int.reduceLT, Int.reduceLE, Int.reduceEq, Int.reduceNe, Int.reducePow, Int.reduceToNat, Int.reduceNeg]
    refine call_giv (halve_e_u8 r hz) ?_
    simp -dsimp -implicitDefEqProofs (disch := first | omega | (simp only [List.length_append, List.length_cons, List.length_nil, List.length_take, List.length_drop]; omega)) only [gD, ↓aPre, aPost, oneW, allOne, retV, retVA, ↓reduceIte, reduceCtorEq, Nat.reduceAdd, Nat.reduceSub, Nat.reduceMul, Nat.reduceLT, Nat.reduceLeDiff, Nat.reduceEqDiff, Nat.reduceDiv, Nat.reduceMod, Nat.reducePow, Int.reduceAdd, Int.reduceSub, Int.reduceMul, Int.reduceLT, Int.reduceLE, Int.reduceEq, Int.reduceNe, Int.reducePow, Int.reduceToNat, Int.reduceNeg]
    refine call_giv (range_e_u8 r hz) ?_
    by_cases hw0 : (w : Int) = 0
    · simp -dsimp -implicitDefEqProofs (disch := first | omega | (simp only [List.length_append, List.length_cons, List.length_nil, List.length_take, List.length_drop]; omega)) only [gD, ibeq_t hw0, ↓aPre, aPost, oneW, allOne, retV, retVA, ↓reduceIte, reduceCtorEq, Nat.reduceAdd, Nat.reduceSub, Nat.reduceMul, Nat.reduceLT, Nat.reduceLeDiff, Nat.reduceEqDiff, Nat.reduceDiv, Nat.reduceMod, Nat.reducePow, Int.reduceAdd, Int.reduceSub, Int.reduceMul, Int.reduceLT, Int.reduceLE, Int.reduceEq, Int.reduceNe, Int.reducePow, Int.reduceToNat, Int.reduceNeg]
      exact post_eq rfl
    · have hh0 : (h : Int) = 0 := by omega
      simp -dsimp -implicitDefEqProofs (disch := first | omega | (simp only [List.length_append, List.length_cons, List.length_nil, List.length_take, List.length_drop]; omega)) only [gD, ibeq_f hw0, ibeq_t hh0, ↓aPre, aPost, oneW, allOne, retV, retVA, ↓reduceIte, reduceCtorEq, Nat.reduceAdd, Nat.reduceSub, Nat.reduceMul, Nat.reduceLT, Nat.reduceLeDiff, Nat.reduceEqDiff, Nat.reduceDiv, Nat.reduceMod, Nat.reducePow, Int.reduceAdd, Int.reduceSub, Int.reduceMul, Int.reduceLT, Int.reduceLE, Int.reduceEq, Int.reduceNe, Int.reducePow, Int.reduceToNat, Int.reduceNeg]
      exact post_eq rfl
  have hW : 1 ≤ w := by omega
  have hH : 1 ≤ h := by omega
  have hp0 : 0 < G.length := by rw [r.ln]; exact Nat.mul_pos hW hH
  have hw0 : ¬ (w : Int) = 0 := by omega
  have hh0 : ¬ (h : Int) = 0 := by omega
  have rhv : Rt 256 ((w + 1) / 2) ((h + 1) / 2) (hvL w h G) := r.half (by decide)
  by_cases hm : most < 1
  · simp -dsimp -implicitDefEqProofs (disch := first | omega | (simp only [List.length_append, List.length_cons, List.length_nil, List.length_take, List.length_drop]; omega)) only [gD, ↓aPre, aPost, oneW, allOne, retV, retVA, ↓reduceIte, reduceCtorEq, Nat.reduceAdd, Nat.reduceSub, Nat.reduceMul, Nat.reduceLT, Nat.reduceLeDiff, Nat.reduceEqDiff, Nat.reduceDiv, Nat.reduceMod, Nat.reducePow, Int.reduceAdd, Int.reduceSub, Int.reduceMul, Int.reduceLT, Int.reduceLE, Int.reduceEq, Int.reduceNe, Int.reducePow, Int.reduceToNat, Int.reduceNeg]
    refine call_giv (levels_e_u8 r most (.inr (.inr hm))) ?_
    simp -dsimp -implicitDefEqProofs (disch := first | omega | (simp only [List.length_append, List.length_cons, List.length_nil, List.length_take, List.length_drop]; omega)) only [gD, ↓aPre, aPost, oneW, allOne, retV, retVA, ↓reduceIte, reduceCtorEq, Nat.reduceAdd, Nat.reduceSub, Nat.reduceMul, Nat.reduceLT, Nat.reduceLeDiff, Nat.reduceEqDiff, Nat.reduceDiv, Nat.reduceMod, Nat.reducePow, Int.reduceAdd, Int.reduceSub, Int.reduceMul, Int.reduceLT, Int.reduceLE, Int.reduceEq, Int.reduceNe, Int.reducePow, Int.reduceToNat, Int.reduceNeg]
    refine call_giv (halve_u8 r hW hH) ?_
    simp -dsimp -implicitDefEqProofs (disch := first | omega | (simp only [List.length_append, List.length_cons, List.length_nil, List.length_take, List.length_drop]; omega)) only [gD, ↓aPre, aPost, oneW, allOne, retV, retVA, ↓reduceIte, reduceCtorEq, Nat.reduceAdd, Nat.reduceSub, Nat.reduceMul, Nat.reduceLT, Nat.reduceLeDiff, Nat.reduceEqDiff, Nat.reduceDiv, Nat.reduceMod, Nat.reducePow, Int.reduceAdd, Int.reduceSub, Int.reduceMul, Int.reduceLT, Int.reduceLE, Int.reduceEq, Int.reduceNe, Int.reducePow, Int.reduceToNat, Int.reduceNeg]
    refine call_giv (range_u8 r hp0) ?_
    simp -dsimp -implicitDefEqProofs (disch := first | omega | (simp only [List.length_append, List.length_cons, List.length_nil, List.length_take, List.length_drop]; omega)) only [gD, ibeq_f hw0, ibeq_f hh0, ↓aPre, aPost, oneW, allOne, retV, retVA, ↓reduceIte, reduceCtorEq, Nat.reduceAdd, Nat.reduceSub, Nat.reduceMul, Nat.reduceLT, Nat.reduceLeDiff, Nat.reduceEqDiff, Nat.reduceDiv, Nat.reduceMod, Nat.reducePow, Int.reduceAdd, Int.reduceSub, Int.reduceMul, Int.reduceLT, Int.reduceLE, Int.reduceEq, Int.reduceNe, Int.reducePow, Int.reduceToNat, Int.reduceNeg]
    refine call_giv (rhalve r (by decide) (by decide) hW hH) ?_
    simp -dsimp -implicitDefEqProofs (disch := first | omega | (simp only [List.length_append, List.length_cons, List.length_nil, List.length_take, List.length_drop]; omega)) only [gD, ↓aPre, aPost, oneW, allOne, retV, retVA, ↓reduceIte, reduceCtorEq, Nat.reduceAdd, Nat.reduceSub, Nat.reduceMul, Nat.reduceLT, Nat.reduceLeDiff, Nat.reduceEqDiff, Nat.reduceDiv, Nat.reduceMod, Nat.reducePow, Int.reduceAdd, Int.reduceSub, Int.reduceMul, Int.reduceLT, Int.reduceLE, Int.reduceEq, Int.reduceNe, Int.reducePow, Int.reduceToNat, Int.reduceNeg]
    refine call_giv (like_u8 rhv) ?_
    simp -dsimp -implicitDefEqProofs (disch := first | omega | (simp only [List.length_append, List.length_cons, List.length_nil, List.length_take, List.length_drop]; omega)) only [gD, ↓aPre, aPost, oneW, allOne, retV, retVA, ↓reduceIte, reduceCtorEq, Nat.reduceAdd, Nat.reduceSub, Nat.reduceMul, Nat.reduceLT, Nat.reduceLeDiff, Nat.reduceEqDiff, Nat.reduceDiv, Nat.reduceMod, Nat.reducePow, Int.reduceAdd, Int.reduceSub, Int.reduceMul, Int.reduceLT, Int.reduceLE, Int.reduceEq, Int.reduceNe, Int.reducePow, Int.reduceToNat, Int.reduceNeg]
    refine call_giv (like_u8 r) ?_
    simp -dsimp -implicitDefEqProofs (disch := first | omega | (simp only [List.length_append, List.length_cons, List.length_nil, List.length_take, List.length_drop]; omega)) only [gD, ↓aPre, aPost, oneW, allOne, retV, retVA, ↓reduceIte, reduceCtorEq, Nat.reduceAdd, Nat.reduceSub, Nat.reduceMul, Nat.reduceLT, Nat.reduceLeDiff, Nat.reduceEqDiff, Nat.reduceDiv, Nat.reduceMod, Nat.reducePow, Int.reduceAdd, Int.reduceSub, Int.reduceMul, Int.reduceLT, Int.reduceLE, Int.reduceEq, Int.reduceNe, Int.reducePow, Int.reduceToNat, Int.reduceNeg]
    exact post_eq rfl
  obtain ⟨n, hn1, hbig, hend⟩ := stop_ex (bigP w h) (most - 1).toNat
  have hn6 : n ≤ 6 := stop_small (by omega) (by omega) hbig
  have hnm : (n : Int) + 1 ≤ most := by omega
  have hend' : (n : Int) + 1 = most ∨ ¬ bigP w h n := by
    rcases hend with h | h
    · exact .inl (by omega)
    · exact .inr h
  simp -dsimp -implicitDefEqProofs (disch := first | omega | (simp only [List.length_append, List.length_cons, List.length_nil, List.length_take, List.length_drop]; omega)) only [gD, ↓aPre, aPost, oneW, allOne, retV, retVA, ↓reduceIte, reduceCtorEq, Nat.reduceAdd, Nat.reduceSub, Nat.reduceMul, Nat.reduceLT, Nat.reduceLeDiff, Nat.reduceEqDiff, Nat.reduceDiv, Nat.reduceMod, Nat.reducePow, Int.reduceAdd, Int.reduceSub, Int.reduceMul, Int.reduceLT, Int.reduceLE, Int.reduceEq, Int.reduceNe, Int.reducePow, Int.reduceToNat, Int.reduceNeg]
  refine call_giv (levels_u8 r hW hH most n hn6 hnm hbig hend') ?_
  simp -dsimp -implicitDefEqProofs (disch := first | omega | (simp only [List.length_append, List.length_cons, List.length_nil, List.length_take, List.length_drop]; omega)) only [gD, ↓aPre, aPost, oneW, allOne, retV, retVA, ↓reduceIte, reduceCtorEq, Nat.reduceAdd, Nat.reduceSub, Nat.reduceMul, Nat.reduceLT, Nat.reduceLeDiff, Nat.reduceEqDiff, Nat.reduceDiv, Nat.reduceMod, Nat.reducePow, Int.reduceAdd, Int.reduceSub, Int.reduceMul, Int.reduceLT, Int.reduceLE, Int.reduceEq, Int.reduceNe, Int.reducePow, Int.reduceToNat, Int.reduceNeg]
  refine call_giv (halve_u8 r hW hH) ?_
  simp -dsimp -implicitDefEqProofs (disch := first | omega | (simp only [List.length_append, List.length_cons, List.length_nil, List.length_take, List.length_drop]; omega)) only [gD, ↓aPre, aPost, oneW, allOne, retV, retVA, ↓reduceIte, reduceCtorEq, Nat.reduceAdd, Nat.reduceSub, Nat.reduceMul, Nat.reduceLT, Nat.reduceLeDiff, Nat.reduceEqDiff, Nat.reduceDiv, Nat.reduceMod, Nat.reducePow, Int.reduceAdd, Int.reduceSub, Int.reduceMul, Int.reduceLT, Int.reduceLE, Int.reduceEq, Int.reduceNe, Int.reducePow, Int.reduceToNat, Int.reduceNeg]
  refine call_giv (range_u8 r hp0) ?_
  simp -dsimp -implicitDefEqProofs (disch := first | omega | (simp only [List.length_append, List.length_cons, List.length_nil, List.length_take, List.length_drop]; omega)) only [gD, ibeq_f hw0, ibeq_f hh0, ↓aPre, aPost, oneW, allOne, retV, retVA, ↓reduceIte, reduceCtorEq, Nat.reduceAdd, Nat.reduceSub, Nat.reduceMul, Nat.reduceLT, Nat.reduceLeDiff, Nat.reduceEqDiff, Nat.reduceDiv, Nat.reduceMod, Nat.reducePow, Int.reduceAdd, Int.reduceSub, Int.reduceMul, Int.reduceLT, Int.reduceLE, Int.reduceEq, Int.reduceNe, Int.reducePow, Int.reduceToNat, Int.reduceNeg]
  refine call_giv (rhalve r (by decide) (by decide) hW hH) ?_
  simp -dsimp -implicitDefEqProofs (disch := first | omega | (simp only [List.length_append, List.length_cons, List.length_nil, List.length_take, List.length_drop]; omega)) only [gD, ↓aPre, aPost, oneW, allOne, retV, retVA, ↓reduceIte, reduceCtorEq, Nat.reduceAdd, Nat.reduceSub, Nat.reduceMul, Nat.reduceLT, Nat.reduceLeDiff, Nat.reduceEqDiff, Nat.reduceDiv, Nat.reduceMod, Nat.reducePow, Int.reduceAdd, Int.reduceSub, Int.reduceMul, Int.reduceLT, Int.reduceLE, Int.reduceEq, Int.reduceNe, Int.reducePow, Int.reduceToNat, Int.reduceNeg]
  refine call_giv (like_u8 rhv) ?_
  simp -dsimp -implicitDefEqProofs (disch := first | omega | (simp only [List.length_append, List.length_cons, List.length_nil, List.length_take, List.length_drop]; omega)) only [gD, ↓aPre, aPost, oneW, allOne, retV, retVA, ↓reduceIte, reduceCtorEq, Nat.reduceAdd, Nat.reduceSub, Nat.reduceMul, Nat.reduceLT, Nat.reduceLeDiff, Nat.reduceEqDiff, Nat.reduceDiv, Nat.reduceMod, Nat.reducePow, Int.reduceAdd, Int.reduceSub, Int.reduceMul, Int.reduceLT, Int.reduceLE, Int.reduceEq, Int.reduceNe, Int.reducePow, Int.reduceToNat, Int.reduceNeg]
  refine call_giv (like_u8 r) ?_
  have el := tabD_len (levD .u8 w h G) (n + 1)
  simp -dsimp -implicitDefEqProofs (disch := first | omega | (simp only [List.length_append, List.length_cons, List.length_nil, List.length_take, List.length_drop]; omega)) only [gD, el, ↓aPre, aPost, oneW, allOne, retV, retVA, ↓reduceIte, reduceCtorEq, Nat.reduceAdd, Nat.reduceSub, Nat.reduceMul, Nat.reduceLT, Nat.reduceLeDiff, Nat.reduceEqDiff, Nat.reduceDiv, Nat.reduceMod, Nat.reducePow, Int.reduceAdd, Int.reduceSub, Int.reduceMul, Int.reduceLT, Int.reduceLE, Int.reduceEq, Int.reduceNe, Int.reducePow, Int.reduceToNat, Int.reduceNeg]
  refine loop_of (fun s => ∃ (i : Nat), i ≤ n + 1 ∧ s.tm 102 = .d (.c (.int .i64 i)) ∧ s.tm 101 = .d (.c (.int .i64 (n + 1 : Nat))) ∧ s.tm 100 = .d (.lst 3 (tabD (levD .u8 w h G) (n + 1))) ∧ s.tm 10 = .ptr 10 0 ∧ s.hp 10 = some (.box [.d (.c (.int .i64 (lw w (i - 1)))), .d (.c (.int .i64 (lw h (i - 1)))), .d (.lst 1 (li .i64 (ll w h G (i - 1))))]) ∧
    s.tm 16 = .d (.c (.int .u8 (mnP G G.length))) ∧ s.tm 17 = .d (.c (.int .u8 (mxP G G.length))) ∧ s.tm 2 = .d (.c (.int .i64 most)) ∧ s.tm 12 = .d (.lst 3 (tabD (levD .u8 w h G) (n + 1))) ∧ s.tm 13 = .d (.c (.int .i64 0))) (fun s => n + 1 - (avN (s.tm 102)).toNat) ?_ ?_
  · refine ⟨0, Nat.zero_le _, ?_⟩
    simp -dsimp -implicitDefEqProofs (disch := first | omega | (simp only [List.length_append, List.length_cons, List.length_nil, List.length_take, List.length_drop]; omega)) only [lw, ll, Nat.zero_sub, Int.natCast_zero, ↓aPre, aPost, oneW, allOne, retV, retVA, ↓reduceIte, reduceCtorEq, Nat.reduceAdd, Nat.reduceSub, Nat.reduceMul, Nat.reduceLT, Nat.reduceLeDiff, Nat.reduceEqDiff, Nat.reduceDiv, Nat.reduceMod, Nat.reducePow, Int.reduceAdd, Int.reduceSub, Int.reduceMul, Int.reduceLT, Int.reduceLE, Int.reduceEq, Int.reduceNe, Int.reducePow, Int.reduceToNat, Int.reduceNeg]
  rintro s ⟨i, hi, hs⟩
  by_cases hlt : i < n + 1
  · have rl := r.lev (by decide) i
    have hli : 0 < (ll w h G i).length := by rw [rl.ln]; exact Nat.mul_pos (lw_pos hW i) (lw_pos hH i)
    have hbd := (bd_self G).lev r (by decide) hW hH i
    have hge := mnP_ge hbd hli _ (Nat.le_refl _)
    have hcond1 : ¬ (mnP (ll w h G i) (ll w h G i).length < mnP G G.length) := by omega
    have hcond2 : ¬ (mxP (ll w h G i) (ll w h G i).length > mxP G G.length) := by omega
    have eg := tabD_get (levD .u8 w h G) hlt
    have rg := range_u8 rl hli
    have lk := like_u8 rl
    by_cases h0 : i = 0
    · subst h0
      have hn : (0 : Int) < (n : Int) + 1 := by omega
      simp -dsimp -implicitDefEqProofs (disch := first | omega | (simp only [List.length_append, List.length_cons, List.length_nil, List.length_take, List.length_drop]; omega)) only [hs, eg, levD, gD, hn, Int.natCast_zero, ↓aPre, aPost, oneW, allOne, retV, retVA, ↓reduceIte, reduceCtorEq, Nat.reduceAdd, Nat.reduceSub, Nat.reduceMul, Nat.reduceLT, Nat.reduceLeDiff, Nat.reduceEqDiff, Nat.reduceDiv, Nat.reduceMod, Nat.reducePow, Int.reduceAdd, Int.reduceSub, Int.reduceMul, Int.reduceLT, Int.reduceLE, Int.reduceEq, Int.reduceNe, Int.reducePow, Int.reduceToNat, Int.reduceNeg]
      refine call_giv rg ?_
      simp -dsimp -implicitDefEqProofs (disch := first | omega | (simp only [List.length_append, List.length_cons, List.length_nil, List.length_take, List.length_drop]; omega)) only [hs, gD, Nat.zero_sub, ↓aPre, aPost, oneW, allOne, retV, retVA, ↓reduceIte, reduceCtorEq, Nat.reduceAdd, Nat.reduceSub, Nat.reduceMul, Nat.reduceLT, Nat.reduceLeDiff, Nat.reduceEqDiff, Nat.reduceDiv, Nat.reduceMod, Nat.reducePow, Int.reduceAdd, Int.reduceSub, Int.reduceMul, Int.reduceLT, Int.reduceLE, Int.reduceEq, Int.reduceNe, Int.reducePow, Int.reduceToNat, Int.reduceNeg]
      refine call_giv lk ?_
      simp -dsimp -implicitDefEqProofs (disch := first | omega | (simp only [List.length_append, List.length_cons, List.length_nil, List.length_take, List.length_drop]; omega)) only [hs, gD, hcond1, hcond2, ↓aPre, aPost, oneW, allOne, retV, retVA, ↓reduceIte, reduceCtorEq, Nat.reduceAdd, Nat.reduceSub, Nat.reduceMul, Nat.reduceLT, Nat.reduceLeDiff, Nat.reduceEqDiff, Nat.reduceDiv, Nat.reduceMod, Nat.reducePow, Int.reduceAdd, Int.reduceSub, Int.reduceMul, Int.reduceLT, Int.reduceLE, Int.reduceEq, Int.reduceNe, Int.reducePow, Int.reduceToNat, Int.reduceNeg]
      refine round_of ⟨1, by omega, ?_⟩ ?_
      · simp -dsimp -implicitDefEqProofs (disch := first | omega | (simp only [List.length_append, List.length_cons, List.length_nil, List.length_take, List.length_drop]; omega)) only [hs, Nat.zero_sub, Nat.sub_self, ↓aPre, aPost, oneW, allOne, retV, retVA, ↓reduceIte, reduceCtorEq, Nat.reduceAdd, Nat.reduceSub, Nat.reduceMul, Nat.reduceLT, Nat.reduceLeDiff, Nat.reduceEqDiff, Nat.reduceDiv, Nat.reduceMod, Nat.reducePow, Int.reduceAdd, Int.reduceSub, Int.reduceMul, Int.reduceLT, Int.reduceLE, Int.reduceEq, Int.reduceNe, Int.reducePow, Int.reduceToNat, Int.reduceNeg]
      · simp -dsimp -implicitDefEqProofs (disch := first | omega | (simp only [List.length_append, List.length_cons, List.length_nil, List.length_take, List.length_drop]; omega)) only [hs, ↓aPre, aPost, oneW, allOne, retV, retVA, ↓reduceIte, reduceCtorEq, Nat.reduceAdd, Nat.reduceSub, Nat.reduceMul, Nat.reduceLT, Nat.reduceLeDiff, Nat.reduceEqDiff, Nat.reduceDiv, Nat.reduceMod, Nat.reducePow, Int.reduceAdd, Int.reduceSub, Int.reduceMul, Int.reduceLT, Int.reduceLE, Int.reduceEq, Int.reduceNe, Int.reducePow, Int.reduceToNat, Int.reduceNeg]
        omega
    · have hi0 : 0 < (i : Int) := by omega
      have e1 : i - 1 + 1 = i := by omega
      have hv : Giv Try.prog 21 [gD .i64 (lw w (i - 1)) (lw h (i - 1)) (ll w h G (i - 1))] (retV [gD .i64 (lw w i) (lw h i) (ll w h G i)]) := by
        have := rhalve (r.lev (by decide) (i - 1)) (by decide) (by decide) (lw_pos hW (i - 1)) (lw_pos hH (i - 1))
        rw [← e1]
        exact this
      simp -dsimp -implicitDefEqProofs (disch := first | omega | (simp only [List.length_append, List.length_cons, List.length_nil, List.length_take, List.length_drop]; omega)) only [hs, eg, levD, gD, hi0, ↓aPre, aPost, oneW, allOne, retV, retVA, ↓reduceIte, reduceCtorEq, Nat.reduceAdd, Nat.reduceSub, Nat.reduceMul, Nat.reduceLT, Nat.reduceLeDiff, Nat.reduceEqDiff, Nat.reduceDiv, Nat.reduceMod, Nat.reducePow, Int.reduceAdd, Int.reduceSub, Int.reduceMul, Int.reduceLT, Int.reduceLE, Int.reduceEq, Int.reduceNe, Int.reducePow, Int.reduceToNat, Int.reduceNeg]
      refine call_giv hv ?_
      simp -dsimp -implicitDefEqProofs (disch := first | omega | (simp only [List.length_append, List.length_cons, List.length_nil, List.length_take, List.length_drop]; omega)) only [hs, gD, ↓aPre, aPost, oneW, allOne, retV, retVA, ↓reduceIte, reduceCtorEq, Nat.reduceAdd, Nat.reduceSub, Nat.reduceMul, Nat.reduceLT, Nat.reduceLeDiff, Nat.reduceEqDiff, Nat.reduceDiv, Nat.reduceMod, Nat.reducePow, Int.reduceAdd, Int.reduceSub, Int.reduceMul, Int.reduceLT, Int.reduceLE, Int.reduceEq, Int.reduceNe, Int.reducePow, Int.reduceToNat, Int.reduceNeg]
      refine call_giv rg ?_
      simp -dsimp -implicitDefEqProofs (disch := first | omega | (simp only [List.length_append, List.length_cons, List.length_nil, List.length_take, List.length_drop]; omega)) only [hs, gD, ↓aPre, aPost, oneW, allOne, retV, retVA, ↓reduceIte, reduceCtorEq, Nat.reduceAdd, Nat.reduceSub, Nat.reduceMul, Nat.reduceLT, Nat.reduceLeDiff, Nat.reduceEqDiff, Nat.reduceDiv, Nat.reduceMod, Nat.reducePow, Int.reduceAdd, Int.reduceSub, Int.reduceMul, Int.reduceLT, Int.reduceLE, Int.reduceEq, Int.reduceNe, Int.reducePow, Int.reduceToNat, Int.reduceNeg]
      refine call_giv lk ?_
      simp -dsimp -implicitDefEqProofs (disch := first | omega | (simp only [List.length_append, List.length_cons, List.length_nil, List.length_take, List.length_drop]; omega)) only [hs, gD, hcond1, hcond2, ↓aPre, aPost, oneW, allOne, retV, retVA, ↓reduceIte, reduceCtorEq, Nat.reduceAdd, Nat.reduceSub, Nat.reduceMul, Nat.reduceLT, Nat.reduceLeDiff, Nat.reduceEqDiff, Nat.reduceDiv, Nat.reduceMod, Nat.reducePow, Int.reduceAdd, Int.reduceSub, Int.reduceMul, Int.reduceLT, Int.reduceLE, Int.reduceEq, Int.reduceNe, Int.reducePow, Int.reduceToNat, Int.reduceNeg]
      refine round_of ⟨i + 1, by omega, ?_⟩ ?_
      · simp -dsimp -implicitDefEqProofs (disch := first | omega | (simp only [List.length_append, List.length_cons, List.length_nil, List.length_take, List.length_drop]; omega)) only [hs, Nat.add_sub_cancel, ↓aPre, aPost, oneW, allOne, retV, retVA, ↓reduceIte, reduceCtorEq, Nat.reduceAdd, Nat.reduceSub, Nat.reduceMul, Nat.reduceLT, Nat.reduceLeDiff, Nat.reduceEqDiff, Nat.reduceDiv, Nat.reduceMod, Nat.reducePow, Int.reduceAdd, Int.reduceSub, Int.reduceMul, Int.reduceLT, Int.reduceLE, Int.reduceEq, Int.reduceNe, Int.reducePow, Int.reduceToNat, Int.reduceNeg]
      · simp -dsimp -implicitDefEqProofs (disch := first | omega | (simp only [List.length_append, List.length_cons, List.length_nil, List.length_take, List.length_drop]; omega)) only [hs, ↓aPre, aPost, oneW, allOne, retV, retVA, ↓reduceIte, reduceCtorEq, Nat.reduceAdd, Nat.reduceSub, Nat.reduceMul, Nat.reduceLT, Nat.reduceLeDiff, Nat.reduceEqDiff, Nat.reduceDiv, Nat.reduceMod, Nat.reducePow, Int.reduceAdd, Int.reduceSub, Int.reduceMul, Int.reduceLT, Int.reduceLE, Int.reduceEq, Int.reduceNe, Int.reducePow, Int.reduceToNat, Int.reduceNeg]
        omega
  · obtain rfl : i = n + 1 := by omega
    have hpn : ∀ j, lw w j * lw h j ≤ 1600 ∧ lw w j ≤ 40 ∧ lw h j ≤ 40 := fun j => by
      have hle : ∀ W, W ≤ 40 → ∀ j, lw W j ≤ 40 := fun W hW j => by
        induction j with
        | zero => exact hW
        | succ j ih => rw [lw]; omega
      exact ⟨Nat.mul_le_mul (hle w hw j) (hle h hh j), hle w hw j, hle h hh j⟩
    obtain ⟨p, hp⟩ : ∃ p : Nat, p = lw w n * lw h n := ⟨_, rfl⟩
    have hp2 : (lw w n : Int) * (lw h n : Int) = p := by rw [hp, Int.natCast_mul]
    have hp3 := (hpn n).1
    rw [← hp] at hp3
    obtain ⟨q, hq⟩ : ∃ q : Nat, q = lw w (n - 1) * lw h (n - 1) := ⟨_, rfl⟩
    have hq2 : (lw w (n - 1) : Int) * (lw h (n - 1) : Int) = q := by rw [hq, Int.natCast_mul]
    have hq3 := (hpn (n - 1)).1
    rw [← hq] at hq3
    have hend2 : (n : Int) + 1 = most ∨ p = 1 := by
      rcases hend' with hx | hx
      · exact .inl hx
      · refine .inr ?_
        unfold bigP at hx
        have := lw_pos hW n
        have := lw_pos hH n
        have e1 : lw w n = 1 := by omega
        have e2 : lw h n = 1 := by omega
        rw [hp, e1, e2]
    have hqn : 1 ≤ n → 1 < q := fun hn => by
      have hb := hbig (n - 1) (by omega)
      have h1 := lw_pos hW (n - 1)
      have h2 := lw_pos hH (n - 1)
      unfold bigP at hb
      rw [hq]
      rcases hb with hb | hb
      · calc 1 < lw w (n - 1) * 1 := by omega
          _ ≤ lw w (n - 1) * lw h (n - 1) := Nat.mul_le_mul_left _ h2
      · calc 1 < 1 * lw h (n - 1) := by omega
          _ ≤ lw w (n - 1) * lw h (n - 1) := Nat.mul_le_mul_right _ h1
    by_cases hm1 : (n : Int) + 1 = most
    · by_cases hn0 : 1 ≤ n
      · have eg := tabD_get (levD .u8 w h G) (show n - 1 < n + 1 by omega)
        have en : ((n : Int) + 1 - 2).toNat = n - 1 := by omega
        have := hqn hn0
        simp -dsimp -implicitDefEqProofs (disch := first | omega | (simp only [List.length_append, List.length_cons, List.length_nil, List.length_take, List.length_drop]; omega)) only [hs, el, ibeq_t hm1, en, eg, levD, gD, hq2, ↓aPre, aPost, oneW, allOne, retV, retVA, ↓reduceIte, reduceCtorEq, Nat.reduceAdd, Nat.reduceSub, Nat.reduceMul, Nat.reduceLT, Nat.reduceLeDiff, Nat.reduceEqDiff, Nat.reduceDiv, Nat.reduceMod, Nat.reducePow, Int.reduceAdd, Int.reduceSub, Int.reduceMul, Int.reduceLT, Int.reduceLE, Int.reduceEq, Int.reduceNe, Int.reducePow, Int.reduceToNat, Int.reduceNeg]
        exact post_eq rfl
      · obtain rfl : n = 0 := by omega
        simp -dsimp -implicitDefEqProofs (disch := first | omega | (simp only [List.length_append, List.length_cons, List.length_nil, List.length_take, List.length_drop]; omega)) only [hs, el, ibeq_t hm1, Int.natCast_zero, ↓aPre, aPost, oneW, allOne, retV, retVA, ↓reduceIte, reduceCtorEq, Nat.reduceAdd, Nat.reduceSub, Nat.reduceMul, Nat.reduceLT, Nat.reduceLeDiff, Nat.reduceEqDiff, Nat.reduceDiv, Nat.reduceMod, Nat.reducePow, Int.reduceAdd, Int.reduceSub, Int.reduceMul, Int.reduceLT, Int.reduceLE, Int.reduceEq, Int.reduceNe, Int.reducePow, Int.reduceToNat, Int.reduceNeg]
        exact post_eq rfl
    · obtain rfl : p = 1 := hend2.resolve_left hm1
      by_cases hn0 : 1 ≤ n
      · have eg := tabD_get (levD .u8 w h G) (show n - 1 < n + 1 by omega)
        have en : ((n : Int) + 1 - 2).toNat = n - 1 := by omega
        have := hqn hn0
        simp -dsimp -implicitDefEqProofs (disch := first | omega | (simp only [List.length_append, List.length_cons, List.length_nil, List.length_take, List.length_drop]; omega)) only [hs, el, ibeq_f hm1, en, eg, levD, gD, hq2, Nat.add_sub_cancel, hp2, ↓aPre, aPost, oneW, allOne, retV, retVA, ↓reduceIte, reduceCtorEq, Nat.reduceAdd, Nat.reduceSub, Nat.reduceMul, Nat.reduceLT, Nat.reduceLeDiff, Nat.reduceEqDiff, Nat.reduceDiv, Nat.reduceMod, Nat.reducePow, Int.reduceAdd, Int.reduceSub, Int.reduceMul, Int.reduceLT, Int.reduceLE, Int.reduceEq, Int.reduceNe, Int.reducePow, Int.reduceToNat, Int.reduceNeg]
        exact post_eq rfl
      · obtain rfl : n = 0 := by omega
        simp -dsimp -implicitDefEqProofs (disch := first | omega | (simp only [List.length_append, List.length_cons, List.length_nil, List.length_take, List.length_drop]; omega)) only [hs, el, ibeq_f hm1, Int.natCast_zero, Nat.add_sub_cancel, hp2, ↓aPre, aPost, oneW, allOne, retV, retVA, ↓reduceIte, reduceCtorEq, Nat.reduceAdd, Nat.reduceSub, Nat.reduceMul, Nat.reduceLT, Nat.reduceLeDiff, Nat.reduceEqDiff, Nat.reduceDiv, Nat.reduceMod, Nat.reducePow, Int.reduceAdd, Int.reduceSub, Int.reduceMul, Int.reduceLT, Int.reduceLE, Int.reduceEq, Int.reduceNe, Int.reducePow, Int.reduceToNat, Int.reduceNeg]
        exact post_eq rfl
theorem levels_ok_u32 (w h most : Int) (l : List Int) (hl : l.length ≤ 300) (hI : In 4294967296 l) : Giv Try.prog 11 [.c (.int .i64 w), .c (.int .i64 h), .c (.int .i64 most), .lst 1 (li .u32 l)] (retV [.c (.bool true)]) := by
  refine Giv.of mixed c11 (Nat.le_of_ble_eq_true rfl) ?_
  by_cases hok : 0 ≤ w ∧ 0 ≤ h ∧ w ≤ 40 ∧ h ≤ 40 ∧ 0 < l.length
  rotate_left
  · simp -dsimp -implicitDefEqProofs (disch := first | omega | (simp only [List.length_append, List.length_cons, List.length_nil, List.length_take, List.length_drop]; omega)) only [a11, ↓aPre, aPost, oneW, allOne, retV, retVA, ↓reduceIte, reduceCtorEq, Nat.reduceAdd, Nat.reduceSub, Nat.reduceMul, Nat.reduceLT, Nat.reduceLeDiff, Nat.reduceEqDiff, Nat.reduceDiv, Nat.reduceMod, Nat.reducePow, Int.reduceAdd, Int.reduceSub, Int.reduceMul, Int.reduceLT, Int.reduceLE, Int.reduceEq, Int.reduceNe, Int.reducePow, Int.reduceToNat, Int.reduceNeg]
    refine call_giv (of_f_u32 w h l (by omega) hok) ?_
    simp -dsimp -implicitDefEqProofs (disch := first | omega | (simp only [List.length_append, List.length_cons, List.length_nil, List.length_take, List.length_drop]; omega)) only [gD, ↓aPre, aPost, oneW, allOne, retV, retVA, ↓reduceIte, reduceCtorEq, Nat.reduceAdd, Nat.reduceSub, Nat.reduceMul, Nat.reduceLT, Nat.reduceLeDiff, Nat.reduceEqDiff, Nat.reduceDiv, Nat.reduceMod, Nat.reducePow, Int.reduceAdd, Int.reduceSub, Int.reduceMul, Int.reduceLT, Int.reduceLE, Int.reduceEq, Int.reduceNe, Int.reducePow, Int.reduceToNat, Int.reduceNeg]
    exact post_eq rfl
  obtain ⟨h1, h2, h3, h4, h5⟩ := hok
  obtain ⟨w, rfl⟩ := Int.eq_ofNat_of_zero_le h1
  obtain ⟨h, rfl⟩ := Int.eq_ofNat_of_zero_le h2
  have hw : w ≤ 40 := by omega
  have hh : h ≤ 40 := by omega
  have r : Rt 4294967296 w h (cy l (w * h)) := cy_rt hI (by decide) hw hh
  obtain ⟨G, hG⟩ : ∃ G, G = cy l (w * h) := ⟨_, rfl⟩
  have hof := of_t_u32 hw hh h5 (by omega) hI
  rw [← hG] at r hof
  simp -dsimp -implicitDefEqProofs (disch := first | omega | (simp only [List.length_append, List.length_cons, List.length_nil, List.length_take, List.length_drop]; omega)) only [a11, ↓aPre, aPost, oneW, allOne, retV, retVA, ↓reduceIte, reduceCtorEq, Nat.reduceAdd, Nat.reduceSub, Nat.reduceMul, Nat.reduceLT, Nat.reduceLeDiff, Nat.reduceEqDiff, Nat.reduceDiv, Nat.reduceMod, Nat.reducePow, Int.reduceAdd, Int.reduceSub, Int.reduceMul, Int.reduceLT, Int.reduceLE, Int.reduceEq, Int.reduceNe, Int.reducePow, Int.reduceToNat, Int.reduceNeg]
  refine call_giv hof ?_
  by_cases hz : w = 0 ∨ h = 0
  · simp -dsimp -implicitDefEqProofs (disch := first | omega | (simp only [List.length_append, List.length_cons, List.length_nil, List.length_take, List.length_drop]; omega)) only [gD, ↓aPre, aPost, oneW, allOne, retV, retVA, ↓reduceIte, reduceCtorEq, Nat.reduceAdd, Nat.reduceSub, Nat.reduceMul, Nat.reduceLT, Nat.reduceLeDiff, Nat.reduceEqDiff, Nat.reduceDiv, Nat.reduceMod, Nat.reducePow, Int.reduceAdd, Int.reduceSub, Int.reduceMul, Int.reduceLT, Int.reduceLE, Int.reduceEq, Int.reduceNe, Int.reducePow, Int.reduceToNat, Int.reduceNeg]
    refine call_giv (levels_e_u32 r most (by omega)) ?_
    simp -dsimp -implicitDefEqProofs (disch := first | omega | (simp only [List.length_append, List.length_cons, List.length_nil, List.length_take, List.length_drop]; omega)) only [gD, ↓aPre, aPost, oneW, allOne, retV, retVA, ↓reduceIte, reduceCtorEq, Nat.reduceAdd, Nat.reduceSub, Nat.reduceMul, Nat.reduceLT, Nat.reduceLeDiff, Nat.reduceEqDiff, Nat.reduceDiv, Nat.reduceMod, Nat.reducePow, Int.reduceAdd, Int.reduceSub, Int.reduceMul, Int.reduceLT, Int.reduceLE, Int.reduceEq, Int.reduceNe, Int.reducePow, Int.reduceToNat, Int.reduceNeg]
    refine call_giv (halve_e_u32 r hz) ?_
    simp -dsimp -implicitDefEqProofs (disch := first | omega | (simp only [List.length_append, List.length_cons, List.length_nil, List.length_take, List.length_drop]; omega)) only [gD, ↓aPre, aPost, oneW, allOne, retV, retVA, ↓reduceIte, reduceCtorEq, Nat.reduceAdd, Nat.reduceSub, Nat.reduceMul, Nat.reduceLT, Nat.reduceLeDiff, Nat.reduceEqDiff, Nat.reduceDiv, Nat.reduceMod, Nat.reducePow, Int.reduceAdd, Int.reduceSub, Int.reduceMul, Int.reduceLT, Int.reduceLE, Int.reduceEq, Int.reduceNe, Int.reducePow, Int.reduceToNat, Int.reduceNeg]
    refine call_giv (range_e_u32 r hz) ?_
    by_cases hw0 : (w : Int) = 0
    · simp -dsimp -implicitDefEqProofs (disch := first | omega | (simp only [List.length_append, List.length_cons, List.length_nil, List.length_take, List.length_drop]; omega)) only [gD, ibeq_t hw0, ↓aPre, aPost, oneW, allOne, retV, retVA, ↓reduceIte, reduceCtorEq, Nat.reduceAdd, Nat.reduceSub, Nat.reduceMul, Nat.reduceLT, Nat.reduceLeDiff, Nat.reduceEqDiff, Nat.reduceDiv, Nat.reduceMod, Nat.reducePow, Int.reduceAdd, Int.reduceSub, Int.reduceMul, Int.reduceLT, Int.reduceLE, Int.reduceEq, Int.reduceNe, Int.reducePow, Int.reduceToNat, Int.reduceNeg]
      exact post_eq rfl
    · have hh0 : (h : Int) = 0 := by omega
      simp -dsimp -implicitDefEqProofs (disch := first | omega | (simp only [List.length_append, List.length_cons, List.length_nil, List.length_take, List.length_drop]; omega)) only [gD, ibeq_f hw0, ibeq_t hh0, ↓aPre, aPost, oneW, allOne, retV, retVA, ↓reduceIte, reduceCtorEq, Nat.reduceAdd, Nat.reduceSub, Nat.reduceMul, Nat.reduceLT, Nat.reduceLeDiff, Nat.reduceEqDiff, Nat.reduceDiv, Nat.reduceMod, Nat.reducePow, Int.reduceAdd, Int.reduceSub, Int.reduceMul, Int.reduceLT, Int.reduceLE, Int.reduceEq, Int.reduceNe, Int.reducePow, Int.reduceToNat, Int.reduceNeg]
      exact post_eq rfl
  have hW : 1 ≤ w := by omega
  have hH : 1 ≤ h := by omega
  have hp0 : 0 < G.length := by rw [r.ln]; exact Nat.mul_pos hW hH
  have hw0 : ¬ (w : Int) = 0 := by omega
  have hh0 : ¬ (h : Int) = 0 := by omega
  have rhv : Rt 4294967296 ((w + 1) / 2) ((h + 1) / 2) (hvL w h G) := r.half (by decide)
  by_cases hm : most < 1
  · simp -dsimp -implicitDefEqProofs (disch := first | omega | (simp only [List.length_append, List.length_cons, List.length_nil, List.length_take, List.length_drop]; omega)) only [gD, ↓aPre, aPost, oneW, allOne, retV, retVA, ↓reduceIte, reduceCtorEq, Nat.reduceAdd, Nat.reduceSub, Nat.reduceMul, Nat.reduceLT, Nat.reduceLeDiff, Nat.reduceEqDiff, Nat.reduceDiv, Nat.reduceMod, Nat.reducePow, Int.reduceAdd, Int.reduceSub, Int.reduceMul, Int.reduceLT, Int.reduceLE, Int.reduceEq, Int.reduceNe, Int.reducePow, Int.reduceToNat, Int.reduceNeg]
    refine call_giv (levels_e_u32 r most (.inr (.inr hm))) ?_
    simp -dsimp -implicitDefEqProofs (disch := first | omega | (simp only [List.length_append, List.length_cons, List.length_nil, List.length_take, List.length_drop]; omega)) only [gD, ↓aPre, aPost, oneW, allOne, retV, retVA, ↓reduceIte, reduceCtorEq, Nat.reduceAdd, Nat.reduceSub, Nat.reduceMul, Nat.reduceLT, Nat.reduceLeDiff, Nat.reduceEqDiff, Nat.reduceDiv, Nat.reduceMod, Nat.reducePow, Int.reduceAdd, Int.reduceSub, Int.reduceMul, Int.reduceLT, Int.reduceLE, Int.reduceEq, Int.reduceNe, Int.reducePow, Int.reduceToNat, Int.reduceNeg]
    refine call_giv (halve_u32 r hW hH) ?_
    simp -dsimp -implicitDefEqProofs (disch := first | omega | (simp only [List.length_append, List.length_cons, List.length_nil, List.length_take, List.length_drop]; omega)) only [gD, ↓aPre, aPost, oneW, allOne, retV, retVA, ↓reduceIte, reduceCtorEq, Nat.reduceAdd, Nat.reduceSub, Nat.reduceMul, Nat.reduceLT, Nat.reduceLeDiff, Nat.reduceEqDiff, Nat.reduceDiv, Nat.reduceMod, Nat.reducePow, Int.reduceAdd, Int.reduceSub, Int.reduceMul, Int.reduceLT, Int.reduceLE, Int.reduceEq, Int.reduceNe, Int.reducePow, Int.reduceToNat, Int.reduceNeg]
    refine call_giv (range_u32 r hp0) ?_
    simp -dsimp -implicitDefEqProofs (disch := first | omega | (simp only [List.length_append, List.length_cons, List.length_nil, List.length_take, List.length_drop]; omega)) only [gD, ibeq_f hw0, ibeq_f hh0, ↓aPre, aPost, oneW, allOne, retV, retVA, ↓reduceIte, reduceCtorEq, Nat.reduceAdd, Nat.reduceSub, Nat.reduceMul, Nat.reduceLT, Nat.reduceLeDiff, Nat.reduceEqDiff, Nat.reduceDiv, Nat.reduceMod, Nat.reducePow, Int.reduceAdd, Int.reduceSub, Int.reduceMul, Int.reduceLT, Int.reduceLE, Int.reduceEq, Int.reduceNe, Int.reducePow, Int.reduceToNat, Int.reduceNeg]
    refine call_giv (rhalve r (by decide) (by decide) hW hH) ?_
    simp -dsimp -implicitDefEqProofs (disch := first | omega | (simp only [List.length_append, List.length_cons, List.length_nil, List.length_take, List.length_drop]; omega)) only [gD, ↓aPre, aPost, oneW, allOne, retV, retVA, ↓reduceIte, reduceCtorEq, Nat.reduceAdd, Nat.reduceSub, Nat.reduceMul, Nat.reduceLT, Nat.reduceLeDiff, Nat.reduceEqDiff, Nat.reduceDiv, Nat.reduceMod, Nat.reducePow, Int.reduceAdd, Int.reduceSub, Int.reduceMul, Int.reduceLT, Int.reduceLE, Int.reduceEq, Int.reduceNe, Int.reducePow, Int.reduceToNat, Int.reduceNeg]
    refine call_giv (like_u32 rhv) ?_
    simp -dsimp -implicitDefEqProofs (disch := first | omega | (simp only [List.length_append, List.length_cons, List.length_nil, List.length_take, List.length_drop]; omega)) only [gD, ↓aPre, aPost, oneW, allOne, retV, retVA, ↓reduceIte, reduceCtorEq, Nat.reduceAdd, Nat.reduceSub, Nat.reduceMul, Nat.reduceLT, Nat.reduceLeDiff, Nat.reduceEqDiff, Nat.reduceDiv, Nat.reduceMod, Nat.reducePow, Int.reduceAdd, Int.reduceSub, Int.reduceMul, Int.reduceLT, Int.reduceLE, Int.reduceEq, Int.reduceNe, Int.reducePow, Int.reduceToNat, Int.reduceNeg]
    refine call_giv (like_u32 r) ?_
    simp -dsimp -implicitDefEqProofs (disch := first | omega | (simp only [List.length_append, List.length_cons, List.length_nil, List.length_take, List.length_drop]; omega)) only [gD, ↓aPre, aPost, oneW, allOne, retV, retVA, ↓reduceIte, reduceCtorEq, Nat.reduceAdd, Nat.reduceSub, Nat.reduceMul, Nat.reduceLT, Nat.reduceLeDiff, Nat.reduceEqDiff, Nat.reduceDiv, Nat.reduceMod, Nat.reducePow, Int.reduceAdd, Int.reduceSub, Int.reduceMul, Int.reduceLT, Int.reduceLE, Int.reduceEq, Int.reduceNe, Int.reducePow, Int.reduceToNat, Int.reduceNeg]
    exact post_eq rfl
  obtain ⟨n, hn1, hbig, hend⟩ := stop_ex (bigP w h) (most - 1).toNat
  have hn6 : n ≤ 6 := stop_small (by omega) (by omega) hbig
  have hnm : (n : Int) + 1 ≤ most := by omega
  have hend' : (n : Int) + 1 = most ∨ ¬ bigP w h n := by
    rcases hend with h | h
    · exact .inl (by omega)
    · exact .inr h
  simp -dsimp -implicitDefEqProofs (disch := first | omega | (simp only [List.length_append, List.length_cons, List.length_nil, List.length_take, List.length_drop]; omega)) only [gD, ↓aPre, aPost, oneW, allOne, retV, retVA, ↓reduceIte, reduceCtorEq, Nat.reduceAdd, Nat.reduceSub, Nat.reduceMul, Nat.reduceLT, Nat.reduceLeDiff, Nat.reduceEqDiff, Nat.reduceDiv, Nat.reduceMod, Nat.reducePow, Int.reduceAdd, Int.reduceSub, Int.reduceMul, Int.reduceLT, Int.reduceLE, Int.reduceEq, Int.reduceNe, Int.reducePow, Int.reduceToNat, Int.reduceNeg]
  refine call_giv (levels_u32 r hW hH most n hn6 hnm hbig hend') ?_
  simp -dsimp -implicitDefEqProofs (disch := first | omega | (simp only [List.length_append, List.length_cons, List.length_nil, List.length_take, List.length_drop]; omega)) only [gD, ↓aPre, aPost, oneW, allOne, retV, retVA, ↓reduceIte, reduceCtorEq, Nat.reduceAdd, Nat.reduceSub, Nat.reduceMul, Nat.reduceLT, Nat.reduceLeDiff, Nat.reduceEqDiff, Nat.reduceDiv, Nat.reduceMod, Nat.reducePow, Int.reduceAdd, Int.reduceSub, Int.reduceMul, Int.reduceLT, Int.reduceLE, Int.reduceEq, Int.reduceNe, Int.reducePow, Int.reduceToNat, Int.reduceNeg]
  refine call_giv (halve_u32 r hW hH) ?_
  simp -dsimp -implicitDefEqProofs (disch := first | omega | (simp only [List.length_append, List.length_cons, List.length_nil, List.length_take, List.length_drop]; omega)) only [gD, ↓aPre, aPost, oneW, allOne, retV, retVA, ↓reduceIte, reduceCtorEq, Nat.reduceAdd, Nat.reduceSub, Nat.reduceMul, Nat.reduceLT, Nat.reduceLeDiff, Nat.reduceEqDiff, Nat.reduceDiv, Nat.reduceMod, Nat.reducePow, Int.reduceAdd, Int.reduceSub, Int.reduceMul, Int.reduceLT, Int.reduceLE, Int.reduceEq, Int.reduceNe, Int.reducePow, Int.reduceToNat, Int.reduceNeg]
  refine call_giv (range_u32 r hp0) ?_
  simp -dsimp -implicitDefEqProofs (disch := first | omega | (simp only [List.length_append, List.length_cons, List.length_nil, List.length_take, List.length_drop]; omega)) only [gD, ibeq_f hw0, ibeq_f hh0, ↓aPre, aPost, oneW, allOne, retV, retVA, ↓reduceIte, reduceCtorEq, Nat.reduceAdd, Nat.reduceSub, Nat.reduceMul, Nat.reduceLT, Nat.reduceLeDiff, Nat.reduceEqDiff, Nat.reduceDiv, Nat.reduceMod, Nat.reducePow, Int.reduceAdd, Int.reduceSub, Int.reduceMul, Int.reduceLT, Int.reduceLE, Int.reduceEq, Int.reduceNe, Int.reducePow, Int.reduceToNat, Int.reduceNeg]
  refine call_giv (rhalve r (by decide) (by decide) hW hH) ?_
  simp -dsimp -implicitDefEqProofs (disch := first | omega | (simp only [List.length_append, List.length_cons, List.length_nil, List.length_take, List.length_drop]; omega)) only [gD, ↓aPre, aPost, oneW, allOne, retV, retVA, ↓reduceIte, reduceCtorEq, Nat.reduceAdd, Nat.reduceSub, Nat.reduceMul, Nat.reduceLT, Nat.reduceLeDiff, Nat.reduceEqDiff, Nat.reduceDiv, Nat.reduceMod, Nat.reducePow, Int.reduceAdd, Int.reduceSub, Int.reduceMul, Int.reduceLT, Int.reduceLE, Int.reduceEq, Int.reduceNe, Int.reducePow, Int.reduceToNat, Int.reduceNeg]
  refine call_giv (like_u32 rhv) ?_
  simp -dsimp -implicitDefEqProofs (disch := first | omega | (simp only [List.length_append, List.length_cons, List.length_nil, List.length_take, List.length_drop]; omega)) only [gD, ↓aPre, aPost, oneW, allOne, retV, retVA, ↓reduceIte, reduceCtorEq, Nat.reduceAdd, Nat.reduceSub, Nat.reduceMul, Nat.reduceLT, Nat.reduceLeDiff, Nat.reduceEqDiff, Nat.reduceDiv, Nat.reduceMod, Nat.reducePow, Int.reduceAdd, Int.reduceSub, Int.reduceMul, Int.reduceLT, Int.reduceLE, Int.reduceEq, Int.reduceNe, Int.reducePow, Int.reduceToNat, Int.reduceNeg]
  refine call_giv (like_u32 r) ?_
  have el := tabD_len (levD .u32 w h G) (n + 1)
  simp -dsimp -implicitDefEqProofs (disch := first | omega | (simp only [List.length_append, List.length_cons, List.length_nil, List.length_take, List.length_drop]; omega)) only [gD, el, ↓aPre, aPost, oneW, allOne, retV, retVA, ↓reduceIte, reduceCtorEq, Nat.reduceAdd, Nat.reduceSub, Nat.reduceMul, Nat.reduceLT, Nat.reduceLeDiff, Nat.reduceEqDiff, Nat.reduceDiv, Nat.reduceMod, Nat.reducePow, Int.reduceAdd, Int.reduceSub, Int.reduceMul, Int.reduceLT, Int.reduceLE, Int.reduceEq, Int.reduceNe, Int.reducePow, Int.reduceToNat, Int.reduceNeg]
  refine loop_of (fun s => ∃ (i : Nat), i ≤ n + 1 ∧ s.tm 102 = .d (.c (.int .i64 i)) ∧ s.tm 101 = .d (.c (.int .i64 (n + 1 : Nat))) ∧ s.tm 100 = .d (.lst 3 (tabD (levD .u32 w h G) (n + 1))) ∧ s.tm 10 = .ptr 10 0 ∧ s.hp 10 = some (.box [.d (.c (.int .i64 (lw w (i - 1)))), .d (.c (.int .i64 (lw h (i - 1)))), .d (.lst 1 (li .i64 (ll w h G (i - 1))))]) ∧
    s.tm 16 = .d (.c (.int .u32 (mnP G G.length))) ∧ s.tm 17 = .d (.c (.int .u32 (mxP G G.length))) ∧ s.tm 2 = .d (.c (.int .i64 most)) ∧ s.tm 12 = .d (.lst 3 (tabD (levD .u32 w h G) (n + 1))) ∧ s.tm 13 = .d (.c (.int .i64 0))) (fun s => n + 1 - (avN (s.tm 102)).toNat) ?_ ?_
  · refine ⟨0, Nat.zero_le _, ?_⟩
    simp -dsimp -implicitDefEqProofs (disch := first | omega | (simp only [List.length_append, List.length_cons, List.length_nil, List.length_take, List.length_drop]; omega)) only [lw, ll, Nat.zero_sub, Int.natCast_zero, ↓aPre, aPost, oneW, allOne, retV, retVA, ↓reduceIte, reduceCtorEq, Nat.reduceAdd, Nat.reduceSub, Nat.reduceMul, Nat.reduceLT, Nat.reduceLeDiff, Nat.reduceEqDiff, Nat.reduceDiv, Nat.reduceMod, Nat.reducePow, Int.reduceAdd, Int.reduceSub, Int.reduceMul, Int.reduceLT, Int.reduceLE, Int.reduceEq, Int.reduceNe, Int.reducePow, Int.reduceToNat, Int.reduceNeg]
  rintro s ⟨i, hi, hs⟩
  by_cases hlt : i < n + 1
  · have rl := r.lev (by decide) i
    have hli : 0 < (ll w h G i).length := by rw [rl.ln]; exact Nat.mul_pos (lw_pos hW i) (lw_pos hH i)
    have hbd := (bd_self G).lev r (by decide) hW hH i
    have hge := mnP_ge hbd hli _ (Nat.le_refl _)
    have hcond1 : ¬ (mnP (ll w h G i) (ll w h G i).length < mnP G G.length) := by omega
    have hcond2 : ¬ (mxP (ll w h G i) (ll w h G i).length > mxP G G.length) := by omega
    have eg := tabD_get (levD .u32 w h G) hlt
    have rg := range_u32 rl hli
    have lk := like_u32 rl
    by_cases h0 : i = 0
    · subst h0
      have hn : (0 : Int) < (n : Int) + 1 := by omega
      simp -dsimp -implicitDefEqProofs (disch := first | omega | (simp only [List.length_append, List.length_cons, List.length_nil, List.length_take, List.length_drop]; omega)) only [hs, eg, levD, gD, hn, Int.natCast_zero, ↓aPre, aPost, oneW, allOne, retV, retVA, ↓reduceIte, reduceCtorEq, Nat.reduceAdd, Nat.reduceSub, Nat.reduceMul, Nat.reduceLT, Nat.reduceLeDiff, Nat.reduceEqDiff, Nat.reduceDiv, Nat.reduceMod, Nat.reducePow, Int.reduceAdd, Int.reduceSub, Int.reduceMul, Int.reduceLT, Int.reduceLE, Int.reduceEq, Int.reduceNe, Int.reducePow, Int.reduceToNat, Int.reduceNeg]
      refine call_giv rg ?_
      simp -dsimp -implicitDefEqProofs (disch := first | omega | (simp only [List.length_append, List.length_cons, List.length_nil, List.length_take, List.length_drop]; omega)) only [hs, gD, Nat.zero_sub, ↓aPre, aPost, oneW, allOne, retV, retVA, ↓reduceIte, reduceCtorEq, Nat.reduceAdd, Nat.reduceSub, Nat.reduceMul, Nat.reduceLT, Nat.reduceLeDiff, Nat.reduceEqDiff, Nat.reduceDiv, Nat.reduceMod, Nat.reducePow, Int.reduceAdd, Int.reduceSub, Int.reduceMul, Int.reduceLT, Int.reduceLE, Int.reduceEq, Int.reduceNe, Int.reducePow, Int.reduceToNat, Int.reduceNeg]
      refine call_giv lk ?_
      simp -dsimp -implicitDefEqProofs (disch := first | omega | (simp only [List.length_append, List.length_cons, List.length_nil, List.length_take, List.length_drop]; omega)) only [hs, gD, hcond1, hcond2, ↓aPre, aPost, oneW, allOne, retV, retVA, ↓reduceIte, reduceCtorEq, Nat.reduceAdd, Nat.reduceSub, Nat.reduceMul, Nat.reduceLT, Nat.reduceLeDiff, Nat.reduceEqDiff, Nat.reduceDiv, Nat.reduceMod, Nat.reducePow, Int.reduceAdd, Int.reduceSub, Int.reduceMul, Int.reduceLT, Int.reduceLE, Int.reduceEq, Int.reduceNe, Int.reducePow, Int.reduceToNat, Int.reduceNeg]
      refine round_of ⟨1, by omega, ?_⟩ ?_
      · simp -dsimp -implicitDefEqProofs (disch := first | omega | (simp only [List.length_append, List.length_cons, List.length_nil, List.length_take, List.length_drop]; omega)) only [hs, Nat.zero_sub, Nat.sub_self, ↓aPre, aPost, oneW, allOne, retV, retVA, ↓reduceIte, reduceCtorEq, Nat.reduceAdd, Nat.reduceSub, Nat.reduceMul, Nat.reduceLT, Nat.reduceLeDiff, Nat.reduceEqDiff, Nat.reduceDiv, Nat.reduceMod, Nat.reducePow, Int.reduceAdd, Int.reduceSub, Int.reduceMul, Int.reduceLT, Int.reduceLE, Int.reduceEq, Int.reduceNe, Int.reducePow, Int.reduceToNat, Int.reduceNeg]
      · simp -dsimp -implicitDefEqProofs (disch := first | omega | (simp only [List.length_append, List.length_cons, List.length_nil, List.length_take, List.length_drop]; omega)) only [hs, ↓aPre, aPost, oneW, allOne, retV, retVA, ↓reduceIte, reduceCtorEq, Nat.reduceAdd, Nat.reduceSub, Nat.reduceMul, Nat.reduceLT, Nat.reduceLeDiff, Nat.reduceEqDiff, Nat.reduceDiv, Nat.reduceMod, Nat.reducePow, Int.reduceAdd, Int.reduceSub, Int.reduceMul, Int.reduceLT, Int.reduceLE, Int.reduceEq, Int.reduceNe, Int.reducePow, Int.reduceToNat, Int.reduceNeg]
        omega
    · have hi0 : 0 < (i : Int) := by omega
      have e1 : i - 1 + 1 = i := by omega
      have hv : Giv Try.prog 21 [gD .i64 (lw w (i - 1)) (lw h (i - 1)) (ll w h G (i - 1))] (retV [gD .i64 (lw w i) (lw h i) (ll w h G i)]) := by
        have := rhalve (r.lev (by decide) (i - 1)) (by decide) (by decide) (lw_pos hW (i - 1)) (lw_pos hH (i - 1))
        rw [← e1]
        exact this
      simp -dsimp -implicitDefEqProofs (disch := first | omega | (simp only [List.length_append, List.length_cons, List.length_nil, List.length_take, List.length_drop]; omega)) only [hs, eg, levD, gD, hi0, ↓aPre, aPost, oneW, allOne, retV, retVA, ↓reduceIte, reduceCtorEq, Nat.reduceAdd, Nat.reduceSub, Nat.reduceMul, Nat.reduceLT, Nat.reduceLeDiff, Nat.reduceEqDiff, Nat.reduceDiv, Nat.reduceMod, Nat.reducePow, Int.reduceAdd, Int.reduceSub, Int.reduceMul, Int.reduceLT, Int.reduceLE, Int.reduceEq, Int.reduceNe, Int.reducePow, Int.reduceToNat, Int.reduceNeg]
      refine call_giv hv ?_
      simp -dsimp -implicitDefEqProofs (disch := first | omega | (simp only [List.length_append, List.length_cons, List.length_nil, List.length_take, List.length_drop]; omega)) only [hs, gD, ↓aPre, aPost, oneW, allOne, retV, retVA, ↓reduceIte, reduceCtorEq, Nat.reduceAdd, Nat.reduceSub, Nat.reduceMul, Nat.reduceLT, Nat.reduceLeDiff, Nat.reduceEqDiff, Nat.reduceDiv, Nat.reduceMod, Nat.reducePow, Int.reduceAdd, Int.reduceSub, Int.reduceMul, Int.reduceLT, Int.reduceLE, Int.reduceEq, Int.reduceNe, Int.reducePow, Int.reduceToNat, Int.reduceNeg]
      refine call_giv rg ?_
      simp -dsimp -implicitDefEqProofs (disch := first | omega | (simp only [List.length_append, List.length_cons, List.length_nil, List.length_take, List.length_drop]; omega)) only [hs, gD, ↓aPre, aPost, oneW, allOne, retV, retVA, ↓reduceIte, reduceCtorEq, Nat.reduceAdd, Nat.reduceSub, Nat.reduceMul, Nat.reduceLT, Nat.reduceLeDiff, Nat.reduceEqDiff, Nat.reduceDiv, Nat.reduceMod, Nat.reducePow, Int.reduceAdd, Int.reduceSub, Int.reduceMul, Int.reduceLT, Int.reduceLE, Int.reduceEq, Int.reduceNe, Int.reducePow, Int.reduceToNat, Int.reduceNeg]
      refine call_giv lk ?_
      simp -dsimp -implicitDefEqProofs (disch := first | omega | (simp only [List.length_append, List.length_cons, List.length_nil, List.length_take, List.length_drop]; omega)) only [hs, gD, hcond1, hcond2, ↓aPre, aPost, oneW, allOne, retV, retVA, ↓reduceIte, reduceCtorEq, Nat.reduceAdd, Nat.reduceSub, Nat.reduceMul, Nat.reduceLT, Nat.reduceLeDiff, Nat.reduceEqDiff, Nat.reduceDiv, Nat.reduceMod, Nat.reducePow, Int.reduceAdd, Int.reduceSub, Int.reduceMul, Int.reduceLT, Int.reduceLE, Int.reduceEq, Int.reduceNe, Int.reducePow, Int.reduceToNat, Int.reduceNeg]
      refine round_of ⟨i + 1, by omega, ?_⟩ ?_
      · simp -dsimp -implicitDefEqProofs (disch := first | omega | (simp only [List.length_append, List.length_cons, List.length_nil, List.length_take, List.length_drop]; omega)) only [hs, Nat.add_sub_cancel, ↓aPre, aPost, oneW, allOne, retV, retVA, ↓reduceIte, reduceCtorEq, Nat.reduceAdd, Nat.reduceSub, Nat.reduceMul, Nat.reduceLT, Nat.reduceLeDiff, Nat.reduceEqDiff, Nat.reduceDiv, Nat.reduceMod, Nat.reducePow, Int.reduceAdd, Int.reduceSub, Int.reduceMul, Int.reduceLT, Int.reduceLE, Int.reduceEq, Int.reduceNe, Int.reducePow, Int.reduceToNat, Int.reduceNeg]
      · simp -dsimp -implicitDefEqProofs (disch := first | omega | (simp only [List.length_append, List.length_cons, List.length_nil, List.length_take, List.length_drop]; omega)) only [hs, ↓aPre, aPost, oneW, allOne, retV, retVA, ↓reduceIte, reduceCtorEq, Nat.reduceAdd, Nat.reduceSub, Nat.reduceMul, Nat.reduceLT, Nat.reduceLeDiff, Nat.reduceEqDiff, Nat.reduceDiv, Nat.reduceMod, Nat.reducePow, Int.reduceAdd, Int.reduceSub, Int.reduceMul, Int.reduceLT, Int.reduceLE, Int.reduceEq, Int.reduceNe, Int.reducePow, Int.reduceToNat, Int.reduceNeg]
        omega
  · obtain rfl : i = n + 1 := by omega
    have hpn : ∀ j, lw w j * lw h j ≤ 1600 ∧ lw w j ≤ 40 ∧ lw h j ≤ 40 := fun j => by
      have hle : ∀ W, W ≤ 40 → ∀ j, lw W j ≤ 40 := fun W hW j => by
        induction j with
        | zero => exact hW
        | succ j ih => rw [lw]; omega
      exact ⟨Nat.mul_le_mul (hle w hw j) (hle h hh j), hle w hw j, hle h hh j⟩
    obtain ⟨p, hp⟩ : ∃ p : Nat, p = lw w n * lw h n := ⟨_, rfl⟩
    have hp2 : (lw w n : Int) * (lw h n : Int) = p := by rw [hp, Int.natCast_mul]
    have hp3 := (hpn n).1
    rw [← hp] at hp3
    obtain ⟨q, hq⟩ : ∃ q : Nat, q = lw w (n - 1) * lw h (n - 1) := ⟨_, rfl⟩
    have hq2 : (lw w (n - 1) : Int) * (lw h (n - 1) : Int) = q := by rw [hq, Int.natCast_mul]
    have hq3 := (hpn (n - 1)).1
    rw [← hq] at hq3
    have hend2 : (n : Int) + 1 = most ∨ p = 1 := by
      rcases hend' with hx | hx
      · exact .inl hx
      · refine .inr ?_
        unfold bigP at hx
        have := lw_pos hW n
        have := lw_pos hH n
        have e1 : lw w n = 1 := by omega
        have e2 : lw h n = 1 := by omega
        rw [hp, e1, e2]
    have hqn : 1 ≤ n → 1 < q := fun hn => by
      have hb := hbig (n - 1) (by omega)
      have h1 := lw_pos hW (n - 1)
      have h2 := lw_pos hH (n - 1)
      unfold bigP at hb
      rw [hq]
      rcases hb with hb | hb
      · calc 1 < lw w (n - 1) * 1 := by omega
          _ ≤ lw w (n - 1) * lw h (n - 1) := Nat.mul_le_mul_left _ h2
      · calc 1 < 1 * lw h (n - 1) := by omega
          _ ≤ lw w (n - 1) * lw h (n - 1) := Nat.mul_le_mul_right _ h1
    by_cases hm1 : (n : Int) + 1 = most
    · by_cases hn0 : 1 ≤ n
      · have eg := tabD_get (levD .u32 w h G) (show n - 1 < n + 1 by omega)
        have en : ((n : Int) + 1 - 2).toNat = n - 1 := by omega
        have := hqn hn0
        simp -dsimp -implicitDefEqProofs (disch := first | omega | (simp only [List.length_append, List.length_cons, List.length_nil, List.length_take, List.length_drop]; omega)) only [hs, el, ibeq_t hm1, en, eg, levD, gD, hq2, ↓aPre, aPost, oneW, allOne, retV, retVA, ↓reduceIte, reduceCtorEq, Nat.reduceAdd, Nat.reduceSub, Nat.reduceMul, Nat.reduceLT, Nat.reduceLeDiff, Nat.reduceEqDiff, Nat.reduceDiv, Nat.reduceMod, Nat.reducePow, Int.reduceAdd, Int.reduceSub, Int.reduceMul, Int.reduceLT, Int.reduceLE, Int.reduceEq, Int.reduceNe, Int.reducePow, Int.reduceToNat, Int.reduceNeg]
        exact post_eq rfl
      · obtain rfl : n = 0 := by omega
        simp -dsimp -implicitDefEqProofs (disch := first | omega | (simp only [List.length_append, List.length_cons, List.length_nil, List.length_take, List.length_drop]; omega)) only [hs, el, ibeq_t hm1, Int.natCast_zero, ↓aPre, aPost, oneW, allOne, retV, retVA, ↓reduceIte, reduceCtorEq, Nat.reduceAdd, Nat.reduceSub, Nat.reduceMul, Nat.reduceLT, Nat.reduceLeDiff, Nat.reduceEqDiff, Nat.reduceDiv, Nat.reduceMod, Nat.reducePow, Int.reduceAdd, Int.reduceSub, Int.reduceMul, Int.reduceLT, Int.reduceLE, Int.reduceEq, Int.reduceNe, Int.reducePow, Int.reduceToNat, Int.reduceNeg]
        exact post_eq rfl
    · obtain rfl : p = 1 := hend2.resolve_left hm1
      by_cases hn0 : 1 ≤ n
      · have eg := tabD_get (levD .u32 w h G) (show n - 1 < n + 1 by omega)
        have en : ((n : Int) + 1 - 2).toNat = n - 1 := by omega
        have := hqn hn0
        simp -dsimp -implicitDefEqProofs (disch := first | omega | (simp only [List.length_append, List.length_cons, List.length_nil, List.length_take, List.length_drop]; omega)) only [hs, el, ibeq_f hm1, en, eg, levD, gD, hq2, Nat.add_sub_cancel, hp2, ↓aPre, aPost, oneW, allOne, retV, retVA, ↓reduceIte, reduceCtorEq, Nat.reduceAdd, Nat.reduceSub, Nat.reduceMul, Nat.reduceLT, Nat.reduceLeDiff, Nat.reduceEqDiff, Nat.reduceDiv, Nat.reduceMod, Nat.reducePow, Int.reduceAdd, Int.reduceSub, Int.reduceMul, Int.reduceLT, Int.reduceLE, Int.reduceEq, Int.reduceNe, Int.reducePow, Int.reduceToNat, Int.reduceNeg]
        exact post_eq rfl
      · obtain rfl : n = 0 := by omega
        simp -dsimp -implicitDefEqProofs (disch := first | omega | (simp only [List.length_append, List.length_cons, List.length_nil, List.length_take, List.length_drop]; omega)) only [hs, el, ibeq_f hm1, Int.natCast_zero, Nat.add_sub_cancel, hp2, ↓aPre, aPost, oneW, allOne, retV, retVA, ↓reduceIte, reduceCtorEq, Nat.reduceAdd, Nat.reduceSub, Nat.reduceMul, Nat.reduceLT, Nat.reduceLeDiff, Nat.reduceEqDiff, Nat.reduceDiv, Nat.reduceMod, Nat.reducePow, Int.reduceAdd, Int.reduceSub, Int.reduceMul, Int.reduceLT, Int.reduceLE, Int.reduceEq, Int.reduceNe, Int.reducePow, Int.reduceToNat, Int.reduceNeg]
        exact post_eq rfl
theorem levels_ok_u16 (w h most : Int) (l : List Int) (hl : l.length ≤ 300) (hI : In 65536 l) : Giv Try.prog 12 [.c (.int .i64 w), .c (.int .i64 h), .c (.int .i64 most), .lst 1 (li .u16 l)] (retV [.c (.bool true)]) := by
  refine Giv.of mixed c12 (Nat.le_of_ble_eq_true rfl) ?_
  by_cases hok : 0 ≤ w ∧ 0 ≤ h ∧ w ≤ 40 ∧ h ≤ 40 ∧ 0 < l.length
  rotate_left
  · simp -dsimp -implicitDefEqProofs (disch := first | omega | (simp only [List.length_append, List.length_cons, List.length_nil, List.length_take, List.length_drop]; omega)) only [a12, ↓aPre, aPost, oneW, allOne, retV, retVA, ↓reduceIte, reduceCtorEq, Nat.reduceAdd, Nat.reduceSub, Nat.reduceMul, Nat.reduceLT, Nat.reduceLeDiff, Nat.reduceEqDiff, Nat.reduceDiv, Nat.reduceMod, Nat.reducePow, Int.reduceAdd, Int.reduceSub, Int.reduceMul, Int.reduceLT, Int.reduceLE, Int.reduceEq, Int.reduceNe, Int.reducePow, Int.reduceToNat, Int.reduceNeg]
    refine call_giv (of_f_u16 w h l (by omega) hok) ?_
    simp -dsimp -implicitDefEqProofs (disch := first | omega | (simp only [List.length_append, List.length_cons, List.length_nil, List.length_take, List.length_drop]; omega)) only [gD, ↓aPre, aPost, oneW, allOne, retV, retVA, ↓reduceIte, reduceCtorEq, Nat.reduceAdd, Nat.reduceSub, Nat.reduceMul, Nat.reduceLT, Nat.reduceLeDiff, Nat.reduceEqDiff, Nat.reduceDiv, Nat.reduceMod, Nat.reducePow, Int.reduceAdd, Int.reduceSub, Int.reduceMul, Int.reduceLT, Int.reduceLE, Int.reduceEq, Int.reduceNe, Int.reducePow, Int.reduceToNat, Int.reduceNeg]
    exact post_eq rfl
  obtain ⟨h1, h2, h3, h4, h5⟩ := hok
  obtain ⟨w, rfl⟩ := Int.eq_ofNat_of_zero_le h1
  obtain ⟨h, rfl⟩ := Int.eq_ofNat_of_zero_le h2
  have hw : w ≤ 40 := by omega
  have hh : h ≤ 40 := by omega
  have r : Rt 65536 w h (cy l (w * h)) := cy_rt hI (by decide) hw hh
  obtain ⟨G, hG⟩ : ∃ G, G = cy l (w * h) := ⟨_, rfl⟩
  have hof := of_t_u16 hw hh h5 (by omega) hI
  rw [← hG] at r hof
  simp -dsimp -implicitDefEqProofs (disch := first | omega | (simp only [List.length_append, List.length_cons, List.length_nil, List.length_take, List.length_drop]; omega)) only [a12, ↓aPre, aPost, oneW, allOne, retV, retVA, ↓reduceIte, reduceCtorEq, Nat.reduceAdd, Nat.reduceSub, Nat.reduceMul, Nat.reduceLT, Nat.reduceLeDiff, Nat.reduceEqDiff, Nat.reduceDiv, Nat.reduceMod, Nat.reducePow, Int.reduceAdd, Int.reduceSub, Int.reduceMul, Int.reduceLT, Int.reduceLE, Int.reduceEq, Int.reduceNe, Int.reducePow, Int.reduceToNat, Int.reduceNeg]
  refine call_giv hof ?_
  by_cases hz : w = 0 ∨ h = 0
  · simp -dsimp -implicitDefEqProofs (disch := first | omega | (simp only [List.length_append, List.length_cons, List.length_nil, List.length_take, List.length_drop]; omega)) only [gD, ↓aPre, aPost, oneW, allOne, retV, retVA, ↓reduceIte, reduceCtorEq, Nat.reduceAdd, Nat.reduceSub, Nat.reduceMul, Nat.reduceLT, Nat.reduceLeDiff, Nat.reduceEqDiff, Nat.reduceDiv, Nat.reduceMod, Nat.reducePow, Int.reduceAdd, Int.reduceSub, Int.reduceMul, Int.reduceLT, Int.reduceLE, Int.reduceEq, Int.reduceNe, Int.reducePow, Int.reduceToNat, Int.reduceNeg]
    refine call_giv (levels_e_u16 r most (by omega)) ?_
    simp -dsimp -implicitDefEqProofs (disch := first | omega | (simp only [List.length_append, List.length_cons, List.length_nil, List.length_take, List.length_drop]; omega)) only [gD, ↓aPre, aPost, oneW, allOne, retV, retVA, ↓reduceIte, reduceCtorEq, Nat.reduceAdd, Nat.reduceSub, Nat.reduceMul, Nat.reduceLT, Nat.reduceLeDiff, Nat.reduceEqDiff, Nat.reduceDiv, Nat.reduceMod, Nat.reducePow, Int.reduceAdd, Int.reduceSub, Int.reduceMul, Int.reduceLT, Int.reduceLE, Int.reduceEq, Int.reduceNe, Int.reducePow, Int.reduceToNat, Int.reduceNeg]
    refine call_giv (halve_e_u16 r hz) ?_
    simp -dsimp -implicitDefEqProofs (disch := first | omega | (simp only [List.length_append, List.length_cons, List.length_nil, List.length_take, List.length_drop]; omega)) only [gD, ↓aPre, aPost, oneW, allOne, retV, retVA, ↓reduceIte, reduceCtorEq, Nat.reduceAdd, Nat.reduceSub, Nat.reduceMul, Nat.reduceLT, Nat.reduceLeDiff, Nat.reduceEqDiff, Nat.reduceDiv, Nat.reduceMod, Nat.reducePow, Int.reduceAdd, Int.reduceSub, Int.reduceMul, Int.reduceLT, Int.reduceLE, Int.reduceEq, Int.reduceNe, Int.reducePow, Int.reduceToNat, Int.reduceNeg]
    refine call_giv (range_e_u16 r hz) ?_
    by_cases hw0 : (w : Int) = 0
    · simp -dsimp -implicitDefEqProofs (disch := first | omega | (simp only [List.length_append, List.length_cons, List.length_nil, List.length_take, List.length_drop]; omega)) only [gD, ibeq_t hw0, ↓aPre, aPost, oneW, allOne, retV, retVA, ↓reduceIte, reduceCtorEq, Nat.reduceAdd, Nat.reduceSub, Nat.reduceMul, Nat.reduceLT, Nat.reduceLeDiff, Nat.reduceEqDiff, Nat.reduceDiv, Nat.reduceMod, Nat.reducePow, Int.reduceAdd, Int.reduceSub, Int.reduceMul, Int.reduceLT, Int.reduceLE, Int.reduceEq, Int.reduceNe, Int.reducePow, Int.reduceToNat, Int.reduceNeg]
      exact post_eq rfl
    · have hh0 : (h : Int) = 0 := by omega
      simp -dsimp -implicitDefEqProofs (disch := first | omega | (simp only [List.length_append, List.length_cons, List.length_nil, List.length_take, List.length_drop]; omega)) only [gD, ibeq_f hw0, ibeq_t hh0, ↓aPre, aPost, oneW, allOne, retV, retVA, ↓reduceIte, reduceCtorEq, Nat.reduceAdd, Nat.reduceSub, Nat.reduceMul, Nat.reduceLT, Nat.reduceLeDiff, Nat.reduceEqDiff, Nat.reduceDiv, Nat.reduceMod, Nat.reducePow, Int.reduceAdd, Int.reduceSub, Int.reduceMul, Int.reduceLT, Int.reduceLE, Int.reduceEq, Int.reduceNe, Int.reducePow, Int.reduceToNat, Int.reduceNeg]
      exact post_eq rfl
  have hW : 1 ≤ w := by omega
  have hH : 1 ≤ h := by omega
  have hp0 : 0 < G.length := by rw [r.ln]; exact Nat.mul_pos hW hH
  have hw0 : ¬ (w : Int) = 0 := by omega
  have hh0 : ¬ (h : Int) = 0 := by omega
  have rhv : Rt 65536 ((w + 1) / 2) ((h + 1) / 2) (hvL w h G) := r.half (by decide)
  by_cases hm : most < 1
  · simp -dsimp -implicitDefEqProofs (disch := first | omega | (simp only [List.length_append, List.length_cons, List.length_nil, List.length_take, List.length_drop]; omega)) only [gD, ↓aPre, aPost, oneW, allOne, retV, retVA, ↓reduceIte, reduceCtorEq, Nat.reduceAdd, Nat.reduceSub, Nat.reduceMul, Nat.reduceLT, Nat.reduceLeDiff, Nat.reduceEqDiff, Nat.reduceDiv, Nat.reduceMod, Nat.reducePow, Int.reduceAdd, Int.reduceSub, Int.reduceMul, Int.reduceLT, Int.reduceLE, Int.reduceEq, Int.reduceNe, Int.reducePow, Int.reduceToNat, Int.reduceNeg]
    refine call_giv (levels_e_u16 r most (.inr (.inr hm))) ?_
    simp -dsimp -implicitDefEqProofs (disch := first | omega | (simp only [List.length_append, List.length_cons, List.length_nil, List.length_take, List.length_drop]; omega)) only [gD, ↓aPre, aPost, oneW, allOne, retV, retVA, ↓reduceIte, reduceCtorEq, Nat.reduceAdd, Nat.reduceSub, Nat.reduceMul, Nat.reduceLT, Nat.reduceLeDiff, Nat.reduceEqDiff, Nat.reduceDiv, Nat.reduceMod, Nat.reducePow, Int.reduceAdd, Int.reduceSub, Int.reduceMul, Int.reduceLT, Int.reduceLE, Int.reduceEq, Int.reduceNe, Int.reducePow, Int.reduceToNat, Int.reduceNeg]
    refine call_giv (halve_u16 r hW hH) ?_
    simp -dsimp -implicitDefEqProofs (disch := first | omega | (simp only [List.length_append, List.length_cons, List.length_nil, List.length_take, List.length_drop]; omega)) only [gD, ↓aPre, aPost, oneW, allOne, retV, retVA, ↓reduceIte, reduceCtorEq, Nat.reduceAdd, Nat.reduceSub, Nat.reduceMul, Nat.reduceLT, Nat.reduceLeDiff, Nat.reduceEqDiff, Nat.reduceDiv, Nat.reduceMod, Nat.reducePow, Int.reduceAdd, Int.reduceSub, Int.reduceMul, Int.reduceLT, Int.reduceLE, Int.reduceEq, Int.reduceNe, Int.reducePow, Int.reduceToNat, Int.reduceNeg]
    refine call_giv (range_u16 r hp0) ?_
    simp -dsimp -implicitDefEqProofs (disch := first | omega | (simp only [List.length_append, List.length_cons, List.length_nil, List.length_take, List.length_drop]; omega)) only [gD, ibeq_f hw0, ibeq_f hh0, ↓aPre, aPost, oneW, allOne, retV, retVA, ↓reduceIte, reduceCtorEq, Nat.reduceAdd, Nat.reduceSub, Nat.reduceMul, Nat.reduceLT, Nat.reduceLeDiff, Nat.reduceEqDiff, Nat.reduceDiv, Nat.reduceMod, Nat.reducePow, Int.reduceAdd, Int.reduceSub, Int.reduceMul, Int.reduceLT, Int.reduceLE, Int.reduceEq, Int.reduceNe, Int.reducePow, Int.reduceToNat, Int.reduceNeg]
    refine call_giv (rhalve r (by decide) (by decide) hW hH) ?_
    simp -dsimp -implicitDefEqProofs (disch := first | omega | (simp only [List.length_append, List.length_cons, List.length_nil, List.length_take, List.length_drop]; omega)) only [gD, ↓aPre, aPost, oneW, allOne, retV, retVA, ↓reduceIte, reduceCtorEq, Nat.reduceAdd, Nat.reduceSub, Nat.reduceMul, Nat.reduceLT, Nat.reduceLeDiff, Nat.reduceEqDiff, Nat.reduceDiv, Nat.reduceMod, Nat.reducePow, Int.reduceAdd, Int.reduceSub, Int.reduceMul, Int.reduceLT, Int.reduceLE, Int.reduceEq, Int.reduceNe, Int.reducePow, Int.reduceToNat, Int.reduceNeg]
    refine call_giv (like_u16 rhv) ?_
    simp -dsimp -implicitDefEqProofs (disch := first | omega | (simp only [List.length_append, List.length_cons, List.length_nil, List.length_take, List.length_drop]; omega)) only [gD, ↓aPre, aPost, oneW, allOne, retV, retVA, ↓reduceIte, reduceCtorEq, Nat.reduceAdd, Nat.reduceSub, Nat.reduceMul, Nat.reduceLT, Nat.reduceLeDiff, Nat.reduceEqDiff, Nat.reduceDiv, Nat.reduceMod, Nat.reducePow, Int.reduceAdd, Int.reduceSub, Int.reduceMul, Int.reduceLT, Int.reduceLE, Int.reduceEq, Int.reduceNe, Int.reducePow, Int.reduceToNat, Int.reduceNeg]
    refine call_giv (like_u16 r) ?_
    simp -dsimp -implicitDefEqProofs (disch := first | omega | (simp only [List.length_append, List.length_cons, List.length_nil, List.length_take, List.length_drop]; omega)) only [gD, ↓aPre, aPost, oneW, allOne, retV, retVA, ↓reduceIte, reduceCtorEq, Nat.reduceAdd, Nat.reduceSub, Nat.reduceMul, Nat.reduceLT, Nat.reduceLeDiff, Nat.reduceEqDiff, Nat.reduceDiv, Nat.reduceMod, Nat.reducePow, Int.reduceAdd, Int.reduceSub, Int.reduceMul, Int.reduceLT, Int.reduceLE, Int.reduceEq, Int.reduceNe, Int.reducePow, Int.reduceToNat, Int.reduceNeg]
    exact post_eq rfl
  obtain ⟨n, hn1, hbig, hend⟩ := stop_ex (bigP w h) (most - 1).toNat
  have hn6 : n ≤ 6 := stop_small (by omega) (by omega) hbig
  have hnm : (n : Int) + 1 ≤ most := by omega
  have hend' : (n : Int) + 1 = most ∨ ¬ bigP w h n := by
    rcases hend with h | h
    · exact .inl (by omega)
    · exact .inr h
  simp -dsimp -implicitDefEqProofs (disch := first | omega | (simp only [List.length_append, List.length_cons, List.length_nil, List.length_take, List.length_drop]; omega)) only [gD, ↓aPre, aPost, oneW, allOne, retV, retVA, ↓reduceIte, reduceCtorEq, Nat.reduceAdd, Nat.reduceSub, Nat.reduceMul, Nat.reduceLT, Nat.reduceLeDiff, Nat.reduceEqDiff, Nat.reduceDiv, Nat.reduceMod, Nat.reducePow, Int.reduceAdd, Int.reduceSub, Int.reduceMul, Int.reduceLT, Int.reduceLE, Int.reduceEq, Int.reduceNe, Int.reducePow, Int.reduceToNat, Int.reduceNeg]
  refine call_giv (levels_u16 r hW hH most n hn6 hnm hbig hend') ?_
  simp -dsimp -implicitDefEqProofs (disch := first | omega | (simp only [List.length_append, List.length_cons, List.length_nil, List.length_take, List.length_drop]; omega)) only [gD, ↓aPre, aPost, oneW, allOne, retV, retVA, ↓reduceIte, reduceCtorEq, Nat.reduceAdd, Nat.reduceSub, Nat.reduceMul, Nat.reduceLT, Nat.reduceLeDiff, Nat.reduceEqDiff, Nat.reduceDiv, Nat.reduceMod, Nat.reducePow, Int.reduceAdd, Int.reduceSub, Int.reduceMul, Int.reduceLT, Int.reduceLE, Int.reduceEq, Int.reduceNe, Int.reducePow, Int.reduceToNat, Int.reduceNeg]
  refine call_giv (halve_u16 r hW hH) ?_
  simp -dsimp -implicitDefEqProofs (disch := first | omega | (simp only [List.length_append, List.length_cons, List.length_nil, List.length_take, List.length_drop]; omega)) only [gD, ↓aPre, aPost, oneW, allOne, retV, retVA, ↓reduceIte, reduceCtorEq, Nat.reduceAdd, Nat.reduceSub, Nat.reduceMul, Nat.reduceLT, Nat.reduceLeDiff, Nat.reduceEqDiff, Nat.reduceDiv, Nat.reduceMod, Nat.reducePow, Int.reduceAdd, Int.reduceSub, Int.reduceMul, Int.reduceLT, Int.reduceLE, Int.reduceEq, Int.reduceNe, Int.reducePow, Int.reduceToNat, Int.reduceNeg]
  refine call_giv (range_u16 r hp0) ?_
  simp -dsimp -implicitDefEqProofs (disch := first | omega | (simp only [List.length_append, List.length_cons, List.length_nil, List.length_take, List.length_drop]; omega)) only [gD, ibeq_f hw0, ibeq_f hh0, ↓aPre, aPost, oneW, allOne, retV, retVA, ↓reduceIte, reduceCtorEq, Nat.reduceAdd, Nat.reduceSub, Nat.reduceMul, Nat.reduceLT, Nat.reduceLeDiff, Nat.reduceEqDiff, Nat.reduceDiv, Nat.reduceMod, Nat.reducePow, Int.reduceAdd, Int.reduceSub, Int.reduceMul, Int.reduceLT, Int.reduceLE, Int.reduceEq, Int.reduceNe, Int.reducePow, Int.reduceToNat, Int.reduceNeg]
  refine call_giv (rhalve r (by decide) (by decide) hW hH) ?_
  simp -dsimp -implicitDefEqProofs (disch := first | omega | (simp only [List.length_append, List.length_cons, List.length_nil, List.length_take, List.length_drop]; omega)) only [gD, ↓aPre, aPost, oneW, allOne, retV, retVA, ↓reduceIte, reduceCtorEq, Nat.reduceAdd, Nat.reduceSub, Nat.reduceMul, Nat.reduceLT, Nat.reduceLeDiff, Nat.reduceEqDiff, Nat.reduceDiv, Nat.reduceMod, Nat.reducePow, Int.reduceAdd, Int.reduceSub, Int.reduceMul, Int.reduceLT, Int.reduceLE, Int.reduceEq, Int.reduceNe, Int.reducePow, Int.reduceToNat, Int.reduceNeg]
  refine call_giv (like_u16 rhv) ?_
  simp -dsimp -implicitDefEqProofs (disch := first | omega | (simp only [List.length_append, List.length_cons, List.length_nil, List.length_take, List.length_drop]; omega)) only [gD, ↓aPre, aPost, oneW, allOne, retV, retVA, ↓reduceIte, reduceCtorEq, Nat.reduceAdd, Nat.reduceSub, Nat.reduceMul, Nat.reduceLT, Nat.reduceLeDiff, Nat.reduceEqDiff, Nat.reduceDiv, Nat.reduceMod, Nat.reducePow, Int.reduceAdd, Int.reduceSub, Int.reduceMul, Int.reduceLT, Int.reduceLE, Int.reduceEq, Int.reduceNe, Int.reducePow, Int.reduceToNat, Int.reduceNeg]
  refine call_giv (like_u16 r) ?_
  have el := tabD_len (levD .u16 w h G) (n + 1)
  simp -dsimp -implicitDefEqProofs (disch := first | omega | (simp only [List.length_append, List.length_cons, List.length_nil, List.length_take, List.length_drop]; omega)) only [gD, el, ↓aPre, aPost, oneW, allOne, retV, retVA, ↓reduceIte, reduceCtorEq, Nat.reduceAdd, Nat.reduceSub, Nat.reduceMul, Nat.reduceLT, Nat.reduceLeDiff, Nat.reduceEqDiff, Nat.reduceDiv, Nat.reduceMod, Nat.reducePow, Int.reduceAdd, Int.reduceSub, Int.reduceMul, Int.reduceLT, Int.reduceLE, Int.reduceEq, Int.reduceNe, Int.reducePow, Int.reduceToNat, Int.reduceNeg]
  refine loop_of (fun s => ∃ (i : Nat), i ≤ n + 1 ∧ s.tm 102 = .d (.c (.int .i64 i)) ∧ s.tm 101 = .d (.c (.int .i64 (n + 1 : Nat))) ∧ s.tm 100 = .d (.lst 3 (tabD (levD .u16 w h G) (n + 1))) ∧ s.tm 10 = .ptr 10 0 ∧ s.hp 10 = some (.box [.d (.c (.int .i64 (lw w (i - 1)))), .d (.c (.int .i64 (lw h (i - 1)))), .d (.lst 1 (li .i64 (ll w h G (i - 1))))]) ∧
    s.tm 16 = .d (.c (.int .u16 (mnP G G.length))) ∧ s.tm 17 = .d (.c (.int .u16 (mxP G G.length))) ∧ s.tm 2 = .d (.c (.int .i64 most)) ∧ s.tm 12 = .d (.lst 3 (tabD (levD .u16 w h G) (n + 1))) ∧ s.tm 13 = .d (.c (.int .i64 0))) (fun s => n + 1 - (avN (s.tm 102)).toNat) ?_ ?_
  · refine ⟨0, Nat.zero_le _, ?_⟩
    simp -dsimp -implicitDefEqProofs (disch := first | omega | (simp only [List.length_append, List.length_cons, List.length_nil, List.length_take, List.length_drop]; omega)) only [lw, ll, Nat.zero_sub, Int.natCast_zero, ↓aPre, aPost, oneW, allOne, retV, retVA, ↓reduceIte, reduceCtorEq, Nat.reduceAdd, Nat.reduceSub, Nat.reduceMul, Nat.reduceLT, Nat.reduceLeDiff, Nat.reduceEqDiff, Nat.reduceDiv, Nat.reduceMod, Nat.reducePow, Int.reduceAdd, Int.reduceSub, Int.reduceMul, Int.reduceLT, Int.reduceLE, Int.reduceEq, Int.reduceNe, Int.reducePow, Int.reduceToNat, Int.reduceNeg]
  rintro s ⟨i, hi, hs⟩
  by_cases hlt : i < n + 1
  · have rl := r.lev (by decide) i
    have hli : 0 < (ll w h G i).length := by rw [rl.ln]; exact Nat.mul_pos (lw_pos hW i) (lw_pos hH i)
    have hbd := (bd_self G).lev r (by decide) hW hH i
    have hge := mnP_ge hbd hli _ (Nat.le_refl _)
    have hcond1 : ¬ (mnP (ll w h G i) (ll w h G i).length < mnP G G.length) := by omega
    have hcond2 : ¬ (mxP (ll w h G i) (ll w h G i).length > mxP G G.length) := by omega
    have eg := tabD_get (levD .u16 w h G) hlt
    have rg := range_u16 rl hli
    have lk := like_u16 rl
    by_cases h0 : i = 0
    · subst h0
      have hn : (0 : Int) < (n : Int) + 1 := by omega
      simp -dsimp -implicitDefEqProofs (disch := first | omega | (simp only [List.length_append, List.length_cons, List.length_nil, List.length_take, List.length_drop]; omega)) only [hs, eg, levD, gD, hn, Int.natCast_zero, ↓aPre, aPost, oneW, allOne, retV, retVA, ↓reduceIte, reduceCtorEq, Nat.reduceAdd, Nat.reduceSub, Nat.reduceMul, Nat.reduceLT, Nat.reduceLeDiff, Nat.reduceEqDiff, Nat.reduceDiv, Nat.reduceMod, Nat.reducePow, Int.reduceAdd, Int.reduceSub, Int.reduceMul, Int.reduceLT, Int.reduceLE, Int.reduceEq, Int.reduceNe, Int.reducePow, Int.reduceToNat, Int.reduceNeg]
      refine call_giv rg ?_
      simp -dsimp -implicitDefEqProofs (disch := first | omega | (simp only [List.length_append, List.length_cons, List.length_nil, List.length_take, List.length_drop]; omega)) only [hs, gD, Nat.zero_sub, ↓aPre, aPost, oneW, allOne, retV, retVA, ↓reduceIte, reduceCtorEq, Nat.reduceAdd, Nat.reduceSub, Nat.reduceMul, Nat.reduceLT, Nat.reduceLeDiff, Nat.reduceEqDiff, Nat.reduceDiv, Nat.reduceMod, Nat.reducePow, Int.reduceAdd, Int.reduceSub, Int.reduceMul, Int.reduceLT, Int.reduceLE, Int.reduceEq, Int.reduceNe, Int.reducePow, Int.reduceToNat, Int.reduceNeg]
      refine call_giv lk ?_
      simp -dsimp -implicitDefEqProofs (disch := first | omega | (simp only [List.length_append, List.length_cons, List.length_nil, List.length_take, List.length_drop]; omega)) only [hs, gD, hcond1, hcond2, ↓aPre, aPost, oneW, allOne, retV, retVA, ↓reduceIte, reduceCtorEq, Nat.reduceAdd, Nat.reduceSub, Nat.reduceMul, Nat.reduceLT, Nat.reduceLeDiff, Nat.reduceEqDiff, Nat.reduceDiv, Nat.reduceMod, Nat.reducePow, Int.reduceAdd, Int.reduceSub, Int.reduceMul, Int.reduceLT, Int.reduceLE, Int.reduceEq, Int.reduceNe, Int.reducePow, Int.reduceToNat, Int.reduceNeg]
      refine round_of ⟨1, by omega, ?_⟩ ?_
      · simp -dsimp -implicitDefEqProofs (disch := first | omega | (simp only [List.length_append, List.length_cons, List.length_nil, List.length_take, List.length_drop]; omega)) only [hs, Nat.zero_sub, Nat.sub_self, ↓aPre, aPost, oneW, allOne, retV, retVA, ↓reduceIte, reduceCtorEq, Nat.reduceAdd, Nat.reduceSub, Nat.reduceMul, Nat.reduceLT, Nat.reduceLeDiff, Nat.reduceEqDiff, Nat.reduceDiv, Nat.reduceMod, Nat.reducePow, Int.reduceAdd, Int.reduceSub, Int.reduceMul, Int.reduceLT, Int.reduceLE, Int.reduceEq, Int.reduceNe, Int.reducePow, Int.reduceToNat, Int.reduceNeg]
      · simp -dsimp -implicitDefEqProofs (disch := first | omega | (simp only [List.length_append, List.length_cons, List.length_nil, List.length_take, List.length_drop]; omega)) only [hs, ↓aPre, aPost, oneW, allOne, retV, retVA, ↓reduceIte, reduceCtorEq, Nat.reduceAdd, Nat.reduceSub, Nat.reduceMul, Nat.reduceLT, Nat.reduceLeDiff, Nat.reduceEqDiff, Nat.reduceDiv, Nat.reduceMod, Nat.reducePow, Int.reduceAdd, Int.reduceSub, Int.reduceMul, Int.reduceLT, Int.reduceLE, Int.reduceEq, Int.reduceNe, Int.reducePow, Int.reduceToNat, Int.reduceNeg]
        omega
    · have hi0 : 0 < (i : Int) := by omega
      have e1 : i - 1 + 1 = i := by omega
      have hv : Giv Try.prog 21 [gD .i64 (lw w (i - 1)) (lw h (i - 1)) (ll w h G (i - 1))] (retV [gD .i64 (lw w i) (lw h i) (ll w h G i)]) := by
        have := rhalve (r.lev (by decide) (i - 1)) (by decide) (by decide) (lw_pos hW (i - 1)) (lw_pos hH (i - 1))
        rw [← e1]
        exact this
      simp -dsimp -implicitDefEqProofs (disch := first | omega | (simp only [List.length_append, List.length_cons, List.length_nil, List.length_take, List.length_drop]; omega)) only [hs, eg, levD, gD, hi0, ↓aPre, aPost, oneW, allOne, retV, retVA, ↓reduceIte, reduceCtorEq, Nat.reduceAdd, Nat.reduceSub, Nat.reduceMul, Nat.reduceLT, Nat.reduceLeDiff, Nat.reduceEqDiff, Nat.reduceDiv, Nat.reduceMod, Nat.reducePow, Int.reduceAdd, Int.reduceSub, Int.reduceMul, Int.reduceLT, Int.reduceLE, Int.reduceEq, Int.reduceNe, Int.reducePow, Int.reduceToNat, Int.reduceNeg]
      refine call_giv hv ?_
      simp -dsimp -implicitDefEqProofs (disch := first | omega | (simp only [List.length_append, List.length_cons, List.length_nil, List.length_take, List.length_drop]; omega)) only [hs, gD, ↓aPre, aPost, oneW, allOne, retV, retVA, ↓reduceIte, reduceCtorEq, Nat.reduceAdd, Nat.reduceSub, Nat.reduceMul, Nat.reduceLT, Nat.reduceLeDiff, Nat.reduceEqDiff, Nat.reduceDiv, Nat.reduceMod, Nat.reducePow, Int.reduceAdd, Int.reduceSub, Int.reduceMul, Int.reduceLT, Int.reduceLE, Int.reduceEq, Int.reduceNe, Int.reducePow, Int.reduceToNat, Int.reduceNeg]
      refine call_giv rg ?_
      simp -dsimp -implicitDefEqProofs (disch := first | omega | (simp only [List.length_append, List.length_cons, List.length_nil, List.length_take, List.length_drop]; omega)) only [hs, gD, ↓aPre, aPost, oneW, allOne, retV, retVA, ↓reduceIte, reduceCtorEq, Nat.reduceAdd, Nat.reduceSub, Nat.reduceMul, Nat.reduceLT, Nat.reduceLeDiff, Nat.reduceEqDiff, Nat.reduceDiv, Nat.reduceMod, Nat.reducePow, Int.reduceAdd, Int.reduceSub, Int.reduceMul, Int.reduceLT, Int.reduceLE, Int.reduceEq, Int.reduceNe, Int.reducePow, Int.reduceToNat, Int.reduceNeg]
      refine call_giv lk ?_
      simp -dsimp -implicitDefEqProofs (disch := first | omega | (simp only [List.length_append, List.length_cons, List.length_nil, List.length_take, List.length_drop]; omega)) only [hs, gD, hcond1, hcond2, ↓aPre, aPost, oneW, allOne, retV, retVA, ↓reduceIte, reduceCtorEq, Nat.reduceAdd, Nat.reduceSub, Nat.reduceMul, Nat.reduceLT, Nat.reduceLeDiff, Nat.reduceEqDiff, Nat.reduceDiv, Nat.reduceMod, Nat.reducePow, Int.reduceAdd, Int.reduceSub, Int.reduceMul, Int.reduceLT, Int.reduceLE, Int.reduceEq, Int.reduceNe, Int.reducePow, Int.reduceToNat, Int.reduceNeg]
      refine round_of ⟨i + 1, by omega, ?_⟩ ?_
      · simp -dsimp -implicitDefEqProofs (disch := first | omega | (simp only [List.length_append, List.length_cons, List.length_nil, List.length_take, List.length_drop]; omega)) only [hs, Nat.add_sub_cancel, ↓aPre, aPost, oneW, allOne, retV, retVA, ↓reduceIte, reduceCtorEq, Nat.reduceAdd, Nat.reduceSub, Nat.reduceMul, Nat.reduceLT, Nat.reduceLeDiff, Nat.reduceEqDiff, Nat.reduceDiv, Nat.reduceMod, Nat.reducePow, Int.reduceAdd, Int.reduceSub, Int.reduceMul, Int.reduceLT, Int.reduceLE, Int.reduceEq, Int.reduceNe, Int.reducePow, Int.reduceToNat, Int.reduceNeg]
      · simp -dsimp -implicitDefEqProofs (disch := first | omega | (simp only [List.length_append, List.length_cons, List.length_nil, List.length_take, List.length_drop]; omega)) only [hs, ↓aPre, aPost, oneW, allOne, retV, retVA, ↓reduceIte, reduceCtorEq, Nat.reduceAdd, Nat.reduceSub, Nat.reduceMul, Nat.reduceLT, Nat.reduceLeDiff, Nat.reduceEqDiff, Nat.reduceDiv, Nat.reduceMod, Nat.reducePow, Int.reduceAdd, Int.reduceSub, Int.reduceMul, Int.reduceLT, Int.reduceLE, Int.reduceEq, Int.reduceNe, Int.reducePow, Int.reduceToNat, Int.reduceNeg]
        omega
  · obtain rfl : i = n + 1 := by omega
    have hpn : ∀ j, lw w j * lw h j ≤ 1600 ∧ lw w j ≤ 40 ∧ lw h j ≤ 40 := fun j => by
      have hle : ∀ W, W ≤ 40 → ∀ j, lw W j ≤ 40 := fun W hW j => by
        induction j with
        | zero => exact hW
        | succ j ih => rw [lw]; omega
      exact ⟨Nat.mul_le_mul (hle w hw j) (hle h hh j), hle w hw j, hle h hh j⟩
    obtain ⟨p, hp⟩ : ∃ p : Nat, p = lw w n * lw h n := ⟨_, rfl⟩
    have hp2 : (lw w n : Int) * (lw h n : Int) = p := by rw [hp, Int.natCast_mul]
    have hp3 := (hpn n).1
    rw [← hp] at hp3
    obtain ⟨q, hq⟩ : ∃ q : Nat, q = lw w (n - 1) * lw h (n - 1) := ⟨_, rfl⟩
    have hq2 : (lw w (n - 1) : Int) * (lw h (n - 1) : Int) = q := by rw [hq, Int.natCast_mul]
    have hq3 := (hpn (n - 1)).1
    rw [← hq] at hq3
    have hend2 : (n : Int) + 1 = most ∨ p = 1 := by
      rcases hend' with hx | hx
      · exact .inl hx
      · refine .inr ?_
        unfold bigP at hx
        have := lw_pos hW n
        have := lw_pos hH n
        have e1 : lw w n = 1 := by omega
        have e2 : lw h n = 1 := by omega
        rw [hp, e1, e2]
    have hqn : 1 ≤ n → 1 < q := fun hn => by
      have hb := hbig (n - 1) (by omega)
      have h1 := lw_pos hW (n - 1)
      have h2 := lw_pos hH (n - 1)
      unfold bigP at hb
      rw [hq]
      rcases hb with hb | hb
      · calc 1 < lw w (n - 1) * 1 := by omega
          _ ≤ lw w (n - 1) * lw h (n - 1) := Nat.mul_le_mul_left _ h2
      · calc 1 < 1 * lw h (n - 1) := by omega
          _ ≤ lw w (n - 1) * lw h (n - 1) := Nat.mul_le_mul_right _ h1
    by_cases hm1 : (n : Int) + 1 = most
    · by_cases hn0 : 1 ≤ n
      · have eg := tabD_get (levD .u16 w h G) (show n - 1 < n + 1 by omega)
        have en : ((n : Int) + 1 - 2).toNat = n - 1 := by omega
        have := hqn hn0
        simp -dsimp -implicitDefEqProofs (disch := first | omega | (simp only [List.length_append, List.length_cons, List.length_nil, List.length_take, List.length_drop]; omega)) only [hs, el, ibeq_t hm1, en, eg, levD, gD, hq2, ↓aPre, aPost, oneW, allOne, retV, retVA, ↓reduceIte, reduceCtorEq, Nat.reduceAdd, Nat.reduceSub, Nat.reduceMul, Nat.reduceLT, Nat.reduceLeDiff, Nat.reduceEqDiff, Nat.reduceDiv, Nat.reduceMod, Nat.reducePow, Int.reduceAdd, Int.reduceSub, Int.reduceMul, Int.reduceLT, Int.reduceLE, Int.reduceEq, Int.reduceNe, Int.reducePow, Int.reduceToNat, Int.reduceNeg]
        exact post_eq rfl
      · obtain rfl : n = 0 := by omega
        simp -dsimp -implicitDefEqProofs (disch := first | omega | (simp only [List.length_append, List.length_cons, List.length_nil, List.length_take, List.length_drop]; omega)) only [hs, el, ibeq_t hm1, Int.natCast_zero, ↓aPre, aPost, oneW, allOne, retV, retVA, ↓reduceIte, reduceCtorEq, Nat.reduceAdd, Nat.reduceSub, Nat.reduceMul, Nat.reduceLT, Nat.reduceLeDiff, Nat.reduceEqDiff, Nat.reduceDiv, Nat.reduceMod, Nat.reducePow, Int.reduceAdd, Int.reduceSub, Int.reduceMul, Int.reduceLT, Int.reduceLE, Int.reduceEq, Int.reduceNe, Int.reducePow, Int.reduceToNat, Int.reduceNeg]
        exact post_eq rfl
    · obtain rfl : p = 1 := hend2.resolve_left hm1
      by_cases hn0 : 1 ≤ n
      · have eg := tabD_get (levD .u16 w h G) (show n - 1 < n + 1 by omega)
        have en : ((n : Int) + 1 - 2).toNat = n - 1 := by omega
        have := hqn hn0
        simp -dsimp -implicitDefEqProofs (disch := first | omega | (simp only [List.length_append, List.length_cons, List.length_nil, List.length_take, List.length_drop]; omega)) only [hs, el, ibeq_f hm1, en, eg, levD, gD, hq2, Nat.add_sub_cancel, hp2, ↓aPre, aPost, oneW, allOne, retV, retVA, ↓reduceIte, reduceCtorEq, Nat.reduceAdd, Nat.reduceSub, Nat.reduceMul, Nat.reduceLT, Nat.reduceLeDiff, Nat.reduceEqDiff, Nat.reduceDiv, Nat.reduceMod, Nat.reducePow, Int.reduceAdd, Int.reduceSub, Int.reduceMul, Int.reduceLT, Int.reduceLE, Int.reduceEq, Int.reduceNe, Int.reducePow, Int.reduceToNat, Int.reduceNeg]
        exact post_eq rfl
      · obtain rfl : n = 0 := by omega
        simp -dsimp -implicitDefEqProofs (disch := first | omega | (simp only [List.length_append, List.length_cons, List.length_nil, List.length_take, List.length_drop]; omega)) only [hs, el, ibeq_f hm1, Int.natCast_zero, Nat.add_sub_cancel, hp2, ↓aPre, aPost, oneW, allOne, retV, retVA, ↓reduceIte, reduceCtorEq, Nat.reduceAdd, Nat.reduceSub, Nat.reduceMul, Nat.reduceLT, Nat.reduceLeDiff, Nat.reduceEqDiff, Nat.reduceDiv, Nat.reduceMod, Nat.reducePow, Int.reduceAdd, Int.reduceSub, Int.reduceMul, Int.reduceLT, Int.reduceLE, Int.reduceEq, Int.reduceNe, Int.reducePow, Int.reduceToNat, Int.reduceNeg]
        exact post_eq rfl
theorem lives_t : Giv Try.prog 6 [] (retV [.c (.bool true)]) := by
  refine Giv.of mixed c6 (Nat.le_of_ble_eq_true rfl) ?_
  have r : Rt 256 2 2 [1, 2, 3, 5] := ⟨by decide, by decide, by decide, rfl, fun z hz => by simp at hz; omega⟩
  simp -dsimp -implicitDefEqProofs (disch := first | omega | (simp only [List.length_append, List.length_cons, List.length_nil, List.length_take, List.length_drop]; omega)) only [a6, ↓aPre, aPost, oneW, allOne, retV, retVA, ↓reduceIte, reduceCtorEq, Nat.reduceAdd, Nat.reduceSub, Nat.reduceMul, Nat.reduceLT, Nat.reduceLeDiff, Nat.reduceEqDiff, Nat.reduceDiv, Nat.reduceMod, Nat.reducePow, Int.reduceAdd, Int.reduceSub, Int.reduceMul, Int.reduceLT, Int.reduceLE, Int.reduceEq, Int.reduceNe, Int.reducePow, Int.reduceToNat, Int.reduceNeg]
  refine call_giv (halve_u8 r (by decide) (by decide)) ?_
  simp -dsimp -implicitDefEqProofs (disch := first | omega | (simp only [List.length_append, List.length_cons, List.length_nil, List.length_take, List.length_drop]; omega)) only [gD, ↓aPre, aPost, oneW, allOne, retV, retVA, ↓reduceIte, reduceCtorEq, Nat.reduceAdd, Nat.reduceSub, Nat.reduceMul, Nat.reduceLT, Nat.reduceLeDiff, Nat.reduceEqDiff, Nat.reduceDiv, Nat.reduceMod, Nat.reducePow, Int.reduceAdd, Int.reduceSub, Int.reduceMul, Int.reduceLT, Int.reduceLE, Int.reduceEq, Int.reduceNe, Int.reducePow, Int.reduceToNat, Int.reduceNeg]
  have e : hvL 2 2 [1, 2, 3, 5] = [3] := by decide
  rw [e]
  simp -dsimp -implicitDefEqProofs (disch := first | omega | (simp only [List.length_append, List.length_cons, List.length_nil, List.length_take, List.length_drop]; omega)) only [gD, ↓aPre, aPost, oneW, allOne, retV, retVA, ↓reduceIte, reduceCtorEq, Nat.reduceAdd, Nat.reduceSub, Nat.reduceMul, Nat.reduceLT, Nat.reduceLeDiff, Nat.reduceEqDiff, Nat.reduceDiv, Nat.reduceMod, Nat.reducePow, Int.reduceAdd, Int.reduceSub, Int.reduceMul, Int.reduceLT, Int.reduceLE, Int.reduceEq, Int.reduceNe, Int.reducePow, Int.reduceToNat, Int.reduceNeg]
  exact post_eq rfl
end Go.Proofs.Ytgjkenadiamgfaa
