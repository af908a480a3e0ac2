/- PyramidCounts: the law's function gives true of all data. No condition but that whole numbers are of their kinds. -/
import Derived.Test.YtgjkenadiamgfaaWCount
set_option linter.unusedSimpArgs false
set_option linter.unusedVariables false
set_option maxRecDepth 8000
set_option maxHeartbeats 4000000
namespace Go.Proofs.Ytgjkenadiamgfaa
open Go.Eng Go.RowKit
theorem wants (l : List Int) (k : Nat) {z : Nat} (hz : l.getD k 0 = (z : Int)) (h : z < 256) : (tab (fun c => (cn l k (c : Nat) : Nat)) 256).set z ((cn l k (z : Nat) : Nat) + 1) = tab (fun c => ((cn l (k + 1) (c : Nat) : Nat) : Int)) 256 := by
  rw [tab_set _ h]
  refine tab_congr _ fun c hc => ?_

  by_cases e : c = z
  · subst e
    rw [if_pos rfl, cn, if_pos hz]
    simp
  · rw [if_neg e, cn, if_neg (by rw [hz]; omega)]
theorem pyramidCounts_giv (y0 : Int) (h0 : (-9223372036854775808 ≤ y0 ∧ y0 ≤ 9223372036854775807)) (y1 : Int) (h1 : (-9223372036854775808 ≤ y1 ∧ y1 ≤ 9223372036854775807)) (y2 : List Int) (h2 : (y2.length * 1 ≤ 140737488351232 ∧ ∀ z ∈ y2, 0 ≤ z ∧ z ≤ 255)) : Giv Try.prog 3 [.c (.int .i64 y0), .c (.int .i64 y1), .lst 1 (li .u8 y2)] (.d (.c (.bool true))) := by
  have hI : In 256 y2 := fun z hz => by have := h2.2 z hz; omega
  refine Giv.of (out := [.c (.bool true)]) mixed c3 (Nat.le_of_ble_eq_true rfl) ?_
  simp -dsimp -implicitDefEqProofs (disch := first | omega | (simp only [List.length_append, List.length_cons, List.length_nil, List.length_take, List.length_drop]; omega)) only [a3, ↓aPre, aPost, oneW, allOne, retV, retVA, ↓reduceIte, reduceCtorEq, Nat.reduceAdd, Nat.reduceSub, Nat.reduceMul, Nat.reduceLT, Nat.reduceLeDiff, Nat.reduceEqDiff, Nat.reduceDiv, Nat.reduceMod, Nat.reducePow, Int.reduceAdd, Int.reduceSub, Int.reduceMul, Int.reduceLT, Int.reduceLE, Int.reduceEq, Int.reduceNe, Int.reducePow, Int.reduceToNat, Int.reduceNeg]
  refine call_giv lives_t ?_
  by_cases hb : y2.length > 300
  · have hb' : (y2.length : Int) > 300 := by omega
    simp -dsimp -implicitDefEqProofs (disch := first | omega | (simp only [List.length_append, List.length_cons, List.length_nil, List.length_take, List.length_drop]; omega)) only [hb', ↓aPre, aPost, oneW, allOne, retV, retVA, ↓reduceIte, reduceCtorEq, Nat.reduceAdd, Nat.reduceSub, Nat.reduceMul, Nat.reduceLT, Nat.reduceLeDiff, Nat.reduceEqDiff, Nat.reduceDiv, Nat.reduceMod, Nat.reducePow, Int.reduceAdd, Int.reduceSub, Int.reduceMul, Int.reduceLT, Int.reduceLE, Int.reduceEq, Int.reduceNe, Int.reducePow, Int.reduceToNat, Int.reduceNeg]
    refine call_giv lives_t ?_
    simp -dsimp -implicitDefEqProofs (disch := first | omega | (simp only [List.length_append, List.length_cons, List.length_nil, List.length_take, List.length_drop]; omega)) only [↓aPre, aPost, oneW, allOne, retV, retVA, ↓reduceIte, reduceCtorEq, Nat.reduceAdd, Nat.reduceSub, Nat.reduceMul, Nat.reduceLT, Nat.reduceLeDiff, Nat.reduceEqDiff, Nat.reduceDiv, Nat.reduceMod, Nat.reducePow, Int.reduceAdd, Int.reduceSub, Int.reduceMul, Int.reduceLT, Int.reduceLE, Int.reduceEq, Int.reduceNe, Int.reducePow, Int.reduceToNat, Int.reduceNeg]
    exact post_eq rfl
  have hb' : ¬ (y2.length : Int) > 300 := by omega
  simp -dsimp -implicitDefEqProofs (disch := first | omega | (simp only [List.length_append, List.length_cons, List.length_nil, List.length_take, List.length_drop]; omega)) only [hb', ↓aPre, aPost, oneW, allOne, retV, retVA, ↓reduceIte, reduceCtorEq, Nat.reduceAdd, Nat.reduceSub, Nat.reduceMul, Nat.reduceLT, Nat.reduceLeDiff, Nat.reduceEqDiff, Nat.reduceDiv, Nat.reduceMod, Nat.reducePow, Int.reduceAdd, Int.reduceSub, Int.reduceMul, Int.reduceLT, Int.reduceLE, Int.reduceEq, Int.reduceNe, Int.reducePow, Int.reduceToNat, Int.reduceNeg]
  by_cases hok : 0 ≤ y0 ∧ 0 ≤ y1 ∧ y0 ≤ 40 ∧ y1 ≤ 40 ∧ 0 < y2.length
  rotate_left
  · refine call_giv (of_f_u8 y0 y1 y2 (by omega) hok) ?_
    simp -dsimp -implicitDefEqProofs (disch := first | omega | (simp only [List.length_append, List.length_cons, List.length_nil, List.length_take, List.length_drop]; omega)) only [gD, ↓aPre, aPost, oneW, allOne, retV, retVA, ↓reduceIte, reduceCtorEq, Nat.reduceAdd, Nat.reduceSub, Nat.reduceMul, Nat.reduceLT, Nat.reduceLeDiff, Nat.reduceEqDiff, Nat.reduceDiv, Nat.reduceMod, Nat.reducePow, Int.reduceAdd, Int.reduceSub, Int.reduceMul, Int.reduceLT, Int.reduceLE, Int.reduceEq, Int.reduceNe, Int.reducePow, Int.reduceToNat, Int.reduceNeg]
    exact post_eq rfl
  obtain ⟨g1, g2, g3, g4, g5⟩ := hok
  obtain ⟨w, rfl⟩ := Int.eq_ofNat_of_zero_le g1
  obtain ⟨h, rfl⟩ := Int.eq_ofNat_of_zero_le g2
  have hw : w ≤ 40 := by omega
  have hh : h ≤ 40 := by omega
  have r : Rt 256 w h (cy y2 (w * h)) := cy_rt hI (by decide) hw hh
  obtain ⟨G, hG⟩ : ∃ G, G = cy y2 (w * h) := ⟨_, rfl⟩
  have hof := of_t_u8 hw hh g5 (by omega) hI
  rw [← hG] at r hof
  have hl : G.length ≤ 4194304 := by rw [r.ln]; exact r.p
  have hcz : ∀ c : Int, cn G 0 c = 0 := fun c => rfl
  have hT0 : List.replicate 256 (0 : Int) = tab (fun c => ((cn G 0 (c : Nat) : Nat) : Int)) 256 := rep_tab 256 0
  refine call_giv hof ?_
  simp -dsimp -implicitDefEqProofs (disch := first | omega | (simp only [List.length_append, List.length_cons, List.length_nil, List.length_take, List.length_drop]; omega)) only [gD, ↓aPre, aPost, oneW, allOne, retV, retVA, ↓reduceIte, reduceCtorEq, Nat.reduceAdd, Nat.reduceSub, Nat.reduceMul, Nat.reduceLT, Nat.reduceLeDiff, Nat.reduceEqDiff, Nat.reduceDiv, Nat.reduceMod, Nat.reducePow, Int.reduceAdd, Int.reduceSub, Int.reduceMul, Int.reduceLT, Int.reduceLE, Int.reduceEq, Int.reduceNe, Int.reducePow, Int.reduceToNat, Int.reduceNeg]
  refine call_own (count_u8 r (by decide)) ?_
  -- the range, and what is known of it
  have hrg : ∃ lo hi e : Int, Giv Try.prog 9 [gD .u8 w h G] (retV [.c (.int .u8 lo), .c (.int .u8 hi), .c (.int .i64 e)]) ∧ 0 ≤ lo ∧ lo < 256 ∧ 0 ≤ hi ∧ hi < 256 ∧ ((e = 0 ∧ 0 < G.length ∧ (∀ j, j < G.length → lo ≤ G.getD j 0 ∧ G.getD j 0 ≤ hi) ∧ 0 < cn G G.length lo ∧ 0 < cn G G.length hi) ∨ (e = 1 ∧ G.length = 0)) := by
    by_cases hz : w = 0 ∨ h = 0
    · exact ⟨0, 0, 1, range_e_u8 r hz, by decide, by decide, by decide, by decide, .inr ⟨rfl, by rw [r.ln]; rcases hz with rfl | rfl <;> simp⟩⟩
    · have hp0 : 0 < G.length := by rw [r.ln]; exact Nat.mul_pos (by omega) (by omega)
      obtain ⟨i, j, k1, k2, k3, k4⟩ := mnP_mem hp0 _ (Nat.le_refl _)
      have b1 := r.i.get (by decide) i
      have b2 := r.i.get (by decide) j
      exact ⟨_, _, 0, range_u8 r hp0, by omega, by omega, by omega, by omega, .inl ⟨rfl, hp0, bd_self G, cn_pos.2 ⟨i, k1, k3.symm⟩, cn_pos.2 ⟨j, k2, k4.symm⟩⟩⟩
  obtain ⟨lo, hi, e, hrg, l1, l2, l3, l4, hE⟩ := hrg
  obtain ⟨lo, rfl⟩ := Int.eq_ofNat_of_zero_le l1
  obtain ⟨hi, rfl⟩ := Int.eq_ofNat_of_zero_le l3
  simp -dsimp -implicitDefEqProofs (disch := first | omega | (simp only [List.length_append, List.length_cons, List.length_nil, List.length_take, List.length_drop]; omega)) only [gD, ↓aPre, aPost, oneW, allOne, retV, retVA, ↓reduceIte, reduceCtorEq, Nat.reduceAdd, Nat.reduceSub, Nat.reduceMul, Nat.reduceLT, Nat.reduceLeDiff, Nat.reduceEqDiff, Nat.reduceDiv, Nat.reduceMod, Nat.reducePow, Int.reduceAdd, Int.reduceSub, Int.reduceMul, Int.reduceLT, Int.reduceLE, Int.reduceEq, Int.reduceNe, Int.reducePow, Int.reduceToNat, Int.reduceNeg]
  refine call_giv hrg ?_
  simp -dsimp -implicitDefEqProofs (disch := first | omega | (simp only [List.length_append, List.length_cons, List.length_nil, List.length_take, List.length_drop]; omega)) only [gD, hT0, ↓aPre, aPost, oneW, allOne, retV, retVA, ↓reduceIte, reduceCtorEq, Nat.reduceAdd, Nat.reduceSub, Nat.reduceMul, Nat.reduceLT, Nat.reduceLeDiff, Nat.reduceEqDiff, Nat.reduceDiv, Nat.reduceMod, Nat.reducePow, Int.reduceAdd, Int.reduceSub, Int.reduceMul, Int.reduceLT, Int.reduceLE, Int.reduceEq, Int.reduceNe, Int.reducePow, Int.reduceToNat, Int.reduceNeg]
  have tl : ∀ k, (tab (fun c => ((cn G k (c : Nat) : Nat) : Int)) 256).length = 256 := fun k => tab_len _ _
  refine loop_of (fun s => ∃ (k : Nat), k ≤ G.length ∧ s.tm 49 = .d (.c (.int .i64 k)) ∧ s.tm 48 = .d (.c (.int .i64 G.length)) ∧ s.tm 47 = .d (.lst 1 (li .i64 G)) ∧ s.tm 14 = .ptr 14 0 ∧ s.hp 14 = some (.box ((li .i64 (tab (fun c => ((cn G k (c : Nat) : Nat) : Int)) 256)).map AV.d)) ∧
    s.tm 10 = .mp 39 ∧ s.hp 39 = some (.map .u8 (cm G G.length)) ∧ s.tm 11 = .d (.c (.int .u8 lo)) ∧ s.tm 12 = .d (.c (.int .u8 hi)) ∧ s.tm 13 = .d (.c (.int .i64 e))) (fun s => G.length - (avN (s.tm 49)).toNat) ?_ ?_
  · refine ⟨0, Nat.zero_le _, ?_⟩
    simp -dsimp -implicitDefEqProofs (disch := first | omega | (simp only [List.length_append, List.length_cons, List.length_nil, List.length_take, List.length_drop]; omega)) only [Int.natCast_zero, ↓aPre, aPost, oneW, allOne, retV, retVA, ↓reduceIte, reduceCtorEq, Nat.reduceAdd, Nat.reduceSub, Nat.reduceMul, Nat.reduceLT, Nat.reduceLeDiff, Nat.reduceEqDiff, Nat.reduceDiv, Nat.reduceMod, Nat.reducePow, Int.reduceAdd, Int.reduceSub, Int.reduceMul, Int.reduceLT, Int.reduceLE, Int.reduceEq, Int.reduceNe, Int.reducePow, Int.reduceToNat, Int.reduceNeg]
  rintro s ⟨k, hk, hs⟩
  by_cases hlt : k < G.length
  · have hz := r.i.get (by decide) k
    obtain ⟨z, hze⟩ := Int.eq_ofNat_of_zero_le hz.1
    have hz2 : z < 256 := by omega
    have hz2i : (z : Int) < 256 := by omega
    have hcn := cn_le G k (z : Nat)
    have hgt : (tab (fun c => ((cn G k (c : Nat) : Nat) : Int)) 256).getD z 0 = (cn G k (z : Nat) : Nat) := tab_get _ hz2
    have hw2 := wants G k hze hz2
    have tlk := tl k
    simp -dsimp -implicitDefEqProofs (disch := first | omega | (simp only [List.length_append, List.length_cons, List.length_nil, List.length_take, List.length_drop]; omega)) only [hs, hze, tl, hgt, ↓aPre, aPost, oneW, allOne, retV, retVA, ↓reduceIte, reduceCtorEq, Nat.reduceAdd, Nat.reduceSub, Nat.reduceMul, Nat.reduceLT, Nat.reduceLeDiff, Nat.reduceEqDiff, Nat.reduceDiv, Nat.reduceMod, Nat.reducePow, Int.reduceAdd, Int.reduceSub, Int.reduceMul, Int.reduceLT, Int.reduceLE, Int.reduceEq, Int.reduceNe, Int.reducePow, Int.reduceToNat, Int.reduceNeg]
    refine round_of ⟨k + 1, by omega, ?_⟩ ?_
    · simp -dsimp -implicitDefEqProofs (disch := first | omega | (simp only [List.length_append, List.length_cons, List.length_nil, List.length_take, List.length_drop]; omega)) only [hs, hw2, hze, tl, hgt, ↓aPre, aPost, oneW, allOne, retV, retVA, ↓reduceIte, reduceCtorEq, Nat.reduceAdd, Nat.reduceSub, Nat.reduceMul, Nat.reduceLT, Nat.reduceLeDiff, Nat.reduceEqDiff, Nat.reduceDiv, Nat.reduceMod, Nat.reducePow, Int.reduceAdd, Int.reduceSub, Int.reduceMul, Int.reduceLT, Int.reduceLE, Int.reduceEq, Int.reduceNe, Int.reducePow, Int.reduceToNat, Int.reduceNeg]
    · simp -dsimp -implicitDefEqProofs (disch := first | omega | (simp only [List.length_append, List.length_cons, List.length_nil, List.length_take, List.length_drop]; omega)) only [hs, ↓aPre, aPost, oneW, allOne, retV, retVA, ↓reduceIte, reduceCtorEq, Nat.reduceAdd, Nat.reduceSub, Nat.reduceMul, Nat.reduceLT, Nat.reduceLeDiff, Nat.reduceEqDiff, Nat.reduceDiv, Nat.reduceMod, Nat.reducePow, Int.reduceAdd, Int.reduceSub, Int.reduceMul, Int.reduceLT, Int.reduceLE, Int.reduceEq, Int.reduceNe, Int.reducePow, Int.reduceToNat, Int.reduceNeg]
      omega
  obtain rfl : k = G.length := by omega
  have tlk := tl G.length
  simp -dsimp -implicitDefEqProofs (disch := first | omega | (simp only [List.length_append, List.length_cons, List.length_nil, List.length_take, List.length_drop]; omega)) only [hs, tl, ↓aPre, aPost, oneW, allOne, retV, retVA, ↓reduceIte, reduceCtorEq, Nat.reduceAdd, Nat.reduceSub, Nat.reduceMul, Nat.reduceLT, Nat.reduceLeDiff, Nat.reduceEqDiff, Nat.reduceDiv, Nat.reduceMod, Nat.reducePow, Int.reduceAdd, Int.reduceSub, Int.reduceMul, Int.reduceLT, Int.reduceLE, Int.reduceEq, Int.reduceNe, Int.reducePow, Int.reduceToNat, Int.reduceNeg]
  refine loop_of (fun s => ∃ (c : Nat), c ≤ 256 ∧ s.tm 60 = .d (.c (.int .i64 c)) ∧ s.tm 17 = .d (.c (.int .i64 (sm G G.length c : Nat))) ∧ s.tm 59 = .agg ((li .i64 (tab (fun c => ((cn G G.length (c : Nat) : Nat) : Int)) 256)).map AV.d) ∧ s.tm 14 = .ptr 14 0 ∧ s.hp 14 = some (.box ((li .i64 (tab (fun c => ((cn G G.length (c : Nat) : Nat) : Int)) 256)).map AV.d)) ∧
    s.tm 10 = .mp 39 ∧ s.hp 39 = some (.map .u8 (cm G G.length)) ∧ s.tm 11 = .d (.c (.int .u8 lo)) ∧ s.tm 12 = .d (.c (.int .u8 hi)) ∧ s.tm 13 = .d (.c (.int .i64 e))) (fun s => 256 - (avN (s.tm 60)).toNat) ?_ ?_
  · refine ⟨0, Nat.zero_le _, ?_⟩
    simp -dsimp -implicitDefEqProofs (disch := first | omega | (simp only [List.length_append, List.length_cons, List.length_nil, List.length_take, List.length_drop]; omega)) only [hs, sm, Int.natCast_zero, tl, ↓aPre, aPost, oneW, allOne, retV, retVA, ↓reduceIte, reduceCtorEq, Nat.reduceAdd, Nat.reduceSub, Nat.reduceMul, Nat.reduceLT, Nat.reduceLeDiff, Nat.reduceEqDiff, Nat.reduceDiv, Nat.reduceMod, Nat.reducePow, Int.reduceAdd, Int.reduceSub, Int.reduceMul, Int.reduceLT, Int.reduceLE, Int.reduceEq, Int.reduceNe, Int.reducePow, Int.reduceToNat, Int.reduceNeg]
  rintro s ⟨c, hc, hs⟩
  by_cases hlt : c < 256
  · have hlt2 : (c : Int) < 256 := by omega
    have hgt : (tab (fun c => ((cn G G.length (c : Nat) : Nat) : Int)) 256).getD c 0 = (cn G G.length (c : Nat) : Nat) := tab_get _ hlt
    have hlk := cm_lk G (c : Nat) G.length
    have hcn := cn_le G G.length (c : Nat)
    have hsl := sm_le G G.length c
    by_cases h0 : 0 < cn G G.length (c : Nat)
    · have h0' : ((cn G G.length (c : Nat) : Nat) : Int) > 0 := by omega
      obtain ⟨j, hj, hje⟩ := cn_pos.1 h0
      have hE' : e = 0 ∧ lo ≤ c ∧ c ≤ hi := by
        rcases hE with ⟨e0, e1, e2, _⟩ | ⟨e0, e1⟩
        · have := e2 j hj
          exact ⟨e0, by omega, by omega⟩
        · omega
      obtain ⟨rfl, hlo, hhi⟩ := hE'
      have n1 : ¬ (c : Int) < lo := by omega
      have n2 : ¬ (c : Int) > hi := by omega
      simp -dsimp -implicitDefEqProofs (disch := first | omega | (simp only [List.length_append, List.length_cons, List.length_nil, List.length_take, List.length_drop]; omega)) only [hs, hlk, hgt, tl, h0', n1, n2, ↓aPre, aPost, oneW, allOne, retV, retVA, ↓reduceIte, reduceCtorEq, Nat.reduceAdd, Nat.reduceSub, Nat.reduceMul, Nat.reduceLT, Nat.reduceLeDiff, Nat.reduceEqDiff, Nat.reduceDiv, Nat.reduceMod, Nat.reducePow, Int.reduceAdd, Int.reduceSub, Int.reduceMul, Int.reduceLT, Int.reduceLE, Int.reduceEq, Int.reduceNe, Int.reducePow, Int.reduceToNat, Int.reduceNeg]
      refine round_of ⟨c + 1, by omega, ?_⟩ ?_
      · simp -dsimp -implicitDefEqProofs (disch := first | omega | (simp only [List.length_append, List.length_cons, List.length_nil, List.length_take, List.length_drop]; omega)) only [hs, sm, h0, ↓aPre, aPost, oneW, allOne, retV, retVA, ↓reduceIte, reduceCtorEq, Nat.reduceAdd, Nat.reduceSub, Nat.reduceMul, Nat.reduceLT, Nat.reduceLeDiff, Nat.reduceEqDiff, Nat.reduceDiv, Nat.reduceMod, Nat.reducePow, Int.reduceAdd, Int.reduceSub, Int.reduceMul, Int.reduceLT, Int.reduceLE, Int.reduceEq, Int.reduceNe, Int.reducePow, Int.reduceToNat, Int.reduceNeg]
      · simp -dsimp -implicitDefEqProofs (disch := first | omega | (simp only [List.length_append, List.length_cons, List.length_nil, List.length_take, List.length_drop]; omega)) only [hs, ↓aPre, aPost, oneW, allOne, retV, retVA, ↓reduceIte, reduceCtorEq, Nat.reduceAdd, Nat.reduceSub, Nat.reduceMul, Nat.reduceLT, Nat.reduceLeDiff, Nat.reduceEqDiff, Nat.reduceDiv, Nat.reduceMod, Nat.reducePow, Int.reduceAdd, Int.reduceSub, Int.reduceMul, Int.reduceLT, Int.reduceLE, Int.reduceEq, Int.reduceNe, Int.reducePow, Int.reduceToNat, Int.reduceNeg]
        omega
    · have h0' : ¬ ((cn G G.length (c : Nat) : Nat) : Int) > 0 := by omega
      simp -dsimp -implicitDefEqProofs (disch := first | omega | (simp only [List.length_append, List.length_cons, List.length_nil, List.length_take, List.length_drop]; omega)) only [hs, hlk, hgt, tl, h0', ↓aPre, aPost, oneW, allOne, retV, retVA, ↓reduceIte, reduceCtorEq, Nat.reduceAdd, Nat.reduceSub, Nat.reduceMul, Nat.reduceLT, Nat.reduceLeDiff, Nat.reduceEqDiff, Nat.reduceDiv, Nat.reduceMod, Nat.reducePow, Int.reduceAdd, Int.reduceSub, Int.reduceMul, Int.reduceLT, Int.reduceLE, Int.reduceEq, Int.reduceNe, Int.reducePow, Int.reduceToNat, Int.reduceNeg]
      refine round_of ⟨c + 1, by omega, ?_⟩ ?_
      · simp -dsimp -implicitDefEqProofs (disch := first | omega | (simp only [List.length_append, List.length_cons, List.length_nil, List.length_take, List.length_drop]; omega)) only [hs, sm, h0, ↓aPre, aPost, oneW, allOne, retV, retVA, ↓reduceIte, reduceCtorEq, Nat.reduceAdd, Nat.reduceSub, Nat.reduceMul, Nat.reduceLT, Nat.reduceLeDiff, Nat.reduceEqDiff, Nat.reduceDiv, Nat.reduceMod, Nat.reducePow, Int.reduceAdd, Int.reduceSub, Int.reduceMul, Int.reduceLT, Int.reduceLE, Int.reduceEq, Int.reduceNe, Int.reducePow, Int.reduceToNat, Int.reduceNeg]
      · simp -dsimp -implicitDefEqProofs (disch := first | omega | (simp only [List.length_append, List.length_cons, List.length_nil, List.length_take, List.length_drop]; omega)) only [hs, ↓aPre, aPost, oneW, allOne, retV, retVA, ↓reduceIte, reduceCtorEq, Nat.reduceAdd, Nat.reduceSub, Nat.reduceMul, Nat.reduceLT, Nat.reduceLeDiff, Nat.reduceEqDiff, Nat.reduceDiv, Nat.reduceMod, Nat.reducePow, Int.reduceAdd, Int.reduceSub, Int.reduceMul, Int.reduceLT, Int.reduceLE, Int.reduceEq, Int.reduceNe, Int.reducePow, Int.reduceToNat, Int.reduceNeg]
        omega
  obtain rfl : c = 256 := by omega
  have hlen := cm_len r.i (by decide) G.length
  have glo : (tab (fun c => ((cn G G.length (c : Nat) : Nat) : Int)) 256).getD lo 0 = (cn G G.length (lo : Nat) : Nat) := tab_get _ (by omega)
  have ghi : (tab (fun c => ((cn G G.length (c : Nat) : Nat) : Int)) 256).getD hi 0 = (cn G G.length (hi : Nat) : Nat) := tab_get _ (by omega)
  have l2' : lo < 256 := by omega
  have l4' : hi < 256 := by omega
  obtain ⟨S, hS⟩ : ∃ S, S = sm G G.length 256 := ⟨_, rfl⟩
  have hsmp : 0 < G.length → 0 < S := fun hp => by
    have hz := r.i.get (by decide) 0
    obtain ⟨z, hze⟩ := Int.eq_ofNat_of_zero_le hz.1
    have h1 : 0 < cn G G.length (z : Nat) := cn_pos.2 ⟨0, hp, hze⟩
    have hmono : ∀ c, z < c → 0 < sm G G.length c := fun c => by
      induction c with
      | zero => intro h; omega
      | succ c ih =>
        intro h
        rw [sm]
        by_cases e : z = c
        · subst e; rw [if_pos h1]; omega
        · have := ih (by omega)
          split <;> omega
    rw [hS]
    exact hmono 256 (by omega)
  have hsm0 : G.length = 0 → S = 0 := fun h0 => by
    have : ∀ c, sm G G.length c = 0 := fun c => by
      induction c with
      | zero => rfl
      | succ c ih => rw [sm, ih, h0]; rfl
    rw [hS]
    exact this 256
  rw [← hS] at hs hlen
  rcases hE with ⟨rfl, e1, e2, e3, e4⟩ | ⟨rfl, e1⟩
  · have s1 : (S : Int) > 0 := by have := hsmp e1; omega
    have s2 : ¬ (S : Int) = 0 := by omega
    have e3' : ((cn G G.length (lo : Nat) : Nat) : Int) > 0 := by omega
    have e4' : ((cn G G.length (hi : Nat) : Nat) : Int) > 0 := by omega
    simp -dsimp -implicitDefEqProofs (disch := first | omega | (simp only [List.length_append, List.length_cons, List.length_nil, List.length_take, List.length_drop]; omega)) only [hs, hlen, glo, ghi, tl, s1, s2, e3', e4', ibeq_f s2, ↓aPre, aPost, oneW, allOne, retV, retVA, ↓reduceIte, reduceCtorEq, Nat.reduceAdd, Nat.reduceSub, Nat.reduceMul, Nat.reduceLT, Nat.reduceLeDiff, Nat.reduceEqDiff, Nat.reduceDiv, Nat.reduceMod, Nat.reducePow, Int.reduceAdd, Int.reduceSub, Int.reduceMul, Int.reduceLT, Int.reduceLE, Int.reduceEq, Int.reduceNe, Int.reducePow, Int.reduceToNat, Int.reduceNeg]
    exact post_eq rfl
  · obtain rfl := hsm0 e1
    simp -dsimp -implicitDefEqProofs (disch := first | omega | (simp only [List.length_append, List.length_cons, List.length_nil, List.length_take, List.length_drop]; omega)) only [hs, hlen, Int.natCast_zero, ↓aPre, aPost, oneW, allOne, retV, retVA, ↓reduceIte, reduceCtorEq, Nat.reduceAdd, Nat.reduceSub, Nat.reduceMul, Nat.reduceLT, Nat.reduceLeDiff, Nat.reduceEqDiff, Nat.reduceDiv, Nat.reduceMod, Nat.reducePow, Int.reduceAdd, Int.reduceSub, Int.reduceMul, Int.reduceLT, Int.reduceLE, Int.reduceEq, Int.reduceNe, Int.reducePow, Int.reduceToNat, Int.reduceNeg]
    exact post_eq rfl
end Go.Proofs.Ytgjkenadiamgfaa
