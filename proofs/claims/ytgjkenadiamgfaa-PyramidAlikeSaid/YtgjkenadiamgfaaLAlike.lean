/- PyramidAlike: the law's function gives true of all data. No condition but that whole numbers are of their kinds. -/
import Derived.Test.YtgjkenadiamgfaaWCount
set_option linter.unusedSimpArgs false
set_option linter.unusedVariables false
set_option maxRecDepth 8000
set_option maxHeartbeats 4000000
namespace Go.Proofs.Ytgjkenadiamgfaa
open Go.Eng Go.RowKit
theorem cn_same {l : List Int} {c : Int} (h : ∀ j, j < l.length → l.getD j 0 = c) : ∀ k, k ≤ l.length → cn l k c = k
  | 0, _ => rfl
  | k + 1, hk => by rw [cn, if_pos (h k (by omega)), cn_same h k (by omega)]
theorem cm_same {l : List Int} {c : Int} (h : ∀ j, j < l.length → l.getD j 0 = c) : ∀ k, k + 1 ≤ l.length → cm l (k + 1) = [(c, .int .i64 ((k : Int) + 1))]
  | 0, hk => by
    rw [cm, cm, h 0 hk, cn_same h 0 (by omega)]
    rfl
  | k + 1, hk => by
    rw [cm, cm_same h k (by omega), h (k + 1) hk, cn_same h (k + 1) (by omega), mset, if_pos rfl]
theorem pyramidAlike_giv (y0 : Int) (h0 : (-9223372036854775808 ≤ y0 ∧ y0 ≤ 9223372036854775807)) (y1 : Int) (h1 : (-9223372036854775808 ≤ y1 ∧ y1 ≤ 9223372036854775807)) (y2 : Int) (h2 : (0 ≤ y2 ∧ y2 ≤ 65535)) : Giv Try.prog 5 [.c (.int .i64 y0), .c (.int .i64 y1), .c (.int .u16 y2)] (.d (.c (.bool true))) := by
  have hI : In 65536 [y2] := In.one (by omega)
  refine Giv.of (out := [.c (.bool true)]) mixed c5 (Nat.le_of_ble_eq_true rfl) ?_
  by_cases hok : 0 ≤ y0 ∧ 0 ≤ y1 ∧ y0 ≤ 40 ∧ y1 ≤ 40
  rotate_left
  · simp -dsimp -implicitDefEqProofs (disch := first | omega | (simp only [List.length_append, List.length_cons, List.length_nil, List.length_take, List.length_drop]; omega)) only [a5, ↓aPre, aPost, oneW, allOne, retV, retVA, ↓reduceIte, reduceCtorEq, Nat.reduceAdd, Nat.reduceSub, Nat.reduceMul, Nat.reduceLT, Nat.reduceLeDiff, Nat.reduceEqDiff, Nat.reduceDiv, Nat.reduceMod, Nat.reducePow, Int.reduceAdd, Int.reduceSub, Int.reduceMul, Int.reduceLT, Int.reduceLE, Int.reduceEq, Int.reduceNe, Int.reducePow, Int.reduceToNat, Int.reduceNeg]
    refine call_giv (of_f_u16 y0 y1 [y2] (by simp) (fun q => hok ⟨q.1, q.2.1, q.2.2.1, q.2.2.2.1⟩)) ?_
    simp -dsimp -implicitDefEqProofs (disch := first | omega | (simp only [List.length_append, List.length_cons, List.length_nil, List.length_take, List.length_drop]; omega)) only [gD, ↓aPre, aPost, oneW, allOne, retV, retVA, ↓reduceIte, reduceCtorEq, Nat.reduceAdd, Nat.reduceSub, Nat.reduceMul, Nat.reduceLT, Nat.reduceLeDiff, Nat.reduceEqDiff, Nat.reduceDiv, Nat.reduceMod, Nat.reducePow, Int.reduceAdd, Int.reduceSub, Int.reduceMul, Int.reduceLT, Int.reduceLE, Int.reduceEq, Int.reduceNe, Int.reducePow, Int.reduceToNat, Int.reduceNeg]
    refine call_giv lives_t ?_
    simp -dsimp -implicitDefEqProofs (disch := first | omega | (simp only [List.length_append, List.length_cons, List.length_nil, List.length_take, List.length_drop]; omega)) only [↓aPre, aPost, oneW, allOne, retV, retVA, ↓reduceIte, reduceCtorEq, Nat.reduceAdd, Nat.reduceSub, Nat.reduceMul, Nat.reduceLT, Nat.reduceLeDiff, Nat.reduceEqDiff, Nat.reduceDiv, Nat.reduceMod, Nat.reducePow, Int.reduceAdd, Int.reduceSub, Int.reduceMul, Int.reduceLT, Int.reduceLE, Int.reduceEq, Int.reduceNe, Int.reducePow, Int.reduceToNat, Int.reduceNeg]
    refine call_giv lives_t ?_
    simp -dsimp -implicitDefEqProofs (disch := first | omega | (simp only [List.length_append, List.length_cons, List.length_nil, List.length_take, List.length_drop]; omega)) only [↓aPre, aPost, oneW, allOne, retV, retVA, ↓reduceIte, reduceCtorEq, Nat.reduceAdd, Nat.reduceSub, Nat.reduceMul, Nat.reduceLT, Nat.reduceLeDiff, Nat.reduceEqDiff, Nat.reduceDiv, Nat.reduceMod, Nat.reducePow, Int.reduceAdd, Int.reduceSub, Int.reduceMul, Int.reduceLT, Int.reduceLE, Int.reduceEq, Int.reduceNe, Int.reducePow, Int.reduceToNat, Int.reduceNeg]
    exact post_eq rfl
  obtain ⟨g1, g2, g3, g4⟩ := hok
  obtain ⟨w, rfl⟩ := Int.eq_ofNat_of_zero_le g1
  obtain ⟨h, rfl⟩ := Int.eq_ofNat_of_zero_le g2
  have hw : w ≤ 40 := by omega
  have hh : h ≤ 40 := by omega
  have r : Rt 65536 w h (cy [y2] (w * h)) := cy_rt hI (by decide) hw hh
  obtain ⟨G, hG⟩ : ∃ G, G = cy [y2] (w * h) := ⟨_, rfl⟩
  have hof := of_t_u16 hw hh (l := [y2]) (by simp) (by simp) hI
  rw [← hG] at r hof
  have hl : G.length ≤ 4194304 := by rw [r.ln]; exact r.p
  have hall : ∀ j, j < G.length → G.getD j 0 = y2 := fun j hj => by
    rw [hG] at hj ⊢
    rw [cy, tab_len] at hj
    rw [cy, tab_get _ hj]
    simp [Nat.mod_one]
  simp -dsimp -implicitDefEqProofs (disch := first | omega | (simp only [List.length_append, List.length_cons, List.length_nil, List.length_take, List.length_drop]; omega)) only [a5, ↓aPre, aPost, oneW, allOne, retV, retVA, ↓reduceIte, reduceCtorEq, Nat.reduceAdd, Nat.reduceSub, Nat.reduceMul, Nat.reduceLT, Nat.reduceLeDiff, Nat.reduceEqDiff, Nat.reduceDiv, Nat.reduceMod, Nat.reducePow, Int.reduceAdd, Int.reduceSub, Int.reduceMul, Int.reduceLT, Int.reduceLE, Int.reduceEq, Int.reduceNe, Int.reducePow, Int.reduceToNat, Int.reduceNeg]
  refine call_giv hof ?_
  simp -dsimp -implicitDefEqProofs (disch := first | omega | (simp only [List.length_append, List.length_cons, List.length_nil, List.length_take, List.length_drop]; omega)) only [gD, ↓aPre, aPost, oneW, allOne, retV, retVA, ↓reduceIte, reduceCtorEq, Nat.reduceAdd, Nat.reduceSub, Nat.reduceMul, Nat.reduceLT, Nat.reduceLeDiff, Nat.reduceEqDiff, Nat.reduceDiv, Nat.reduceMod, Nat.reducePow, Int.reduceAdd, Int.reduceSub, Int.reduceMul, Int.reduceLT, Int.reduceLE, Int.reduceEq, Int.reduceNe, Int.reducePow, Int.reduceToNat, Int.reduceNeg]
  refine call_giv lives_t ?_
  simp -dsimp -implicitDefEqProofs (disch := first | omega | (simp only [List.length_append, List.length_cons, List.length_nil, List.length_take, List.length_drop]; omega)) only [gD, ↓aPre, aPost, oneW, allOne, retV, retVA, ↓reduceIte, reduceCtorEq, Nat.reduceAdd, Nat.reduceSub, Nat.reduceMul, Nat.reduceLT, Nat.reduceLeDiff, Nat.reduceEqDiff, Nat.reduceDiv, Nat.reduceMod, Nat.reducePow, Int.reduceAdd, Int.reduceSub, Int.reduceMul, Int.reduceLT, Int.reduceLE, Int.reduceEq, Int.reduceNe, Int.reducePow, Int.reduceToNat, Int.reduceNeg]
  refine call_own (count_u16 r (by decide)) ?_
  by_cases hz : w = 0 ∨ h = 0
  · have hl0 : G.length = 0 := by rw [r.ln]; rcases hz with rfl | rfl <;> simp
    by_cases hw0 : (w : Int) = 0
    · simp -dsimp -implicitDefEqProofs (disch := first | omega | (simp only [List.length_append, List.length_cons, List.length_nil, List.length_take, List.length_drop]; omega)) only [gD, ibeq_t hw0, hl0, cm, Int.natCast_zero, ↓aPre, aPost, oneW, allOne, retV, retVA, ↓reduceIte, reduceCtorEq, Nat.reduceAdd, Nat.reduceSub, Nat.reduceMul, Nat.reduceLT, Nat.reduceLeDiff, Nat.reduceEqDiff, Nat.reduceDiv, Nat.reduceMod, Nat.reducePow, Int.reduceAdd, Int.reduceSub, Int.reduceMul, Int.reduceLT, Int.reduceLE, Int.reduceEq, Int.reduceNe, Int.reducePow, Int.reduceToNat, Int.reduceNeg]
      exact post_eq rfl
    · have hh0 : (h : Int) = 0 := by omega
      simp -dsimp -implicitDefEqProofs (disch := first | omega | (simp only [List.length_append, List.length_cons, List.length_nil, List.length_take, List.length_drop]; omega)) only [gD, ibeq_f hw0, ibeq_t hh0, hl0, cm, Int.natCast_zero, ↓aPre, aPost, oneW, allOne, retV, retVA, ↓reduceIte, reduceCtorEq, Nat.reduceAdd, Nat.reduceSub, Nat.reduceMul, Nat.reduceLT, Nat.reduceLeDiff, Nat.reduceEqDiff, Nat.reduceDiv, Nat.reduceMod, Nat.reducePow, Int.reduceAdd, Int.reduceSub, Int.reduceMul, Int.reduceLT, Int.reduceLE, Int.reduceEq, Int.reduceNe, Int.reducePow, Int.reduceToNat, Int.reduceNeg]
      exact post_eq rfl
  have hW : 1 ≤ w := by omega
  have hH : 1 ≤ h := by omega
  have hp0 : 0 < G.length := by rw [r.ln]; exact Nat.mul_pos hW hH
  have hw0 : ¬ (w : Int) = 0 := by omega
  have hh0 : ¬ (h : Int) = 0 := by omega
  obtain ⟨n, hn1, hbig, hend⟩ := stop_ex (bigP w h) 99
  have hn6 : n ≤ 6 := stop_small (by omega) (by omega) hbig
  have hend' : ¬ bigP w h n := hend.resolve_left (by omega)
  have hone : lw w n = 1 ∧ lw h n = 1 := by
    unfold bigP at hend'
    have q1 := lw_pos hW n
    have q2 := lw_pos hH n
    omega
  simp -dsimp -implicitDefEqProofs (disch := first | omega | (simp only [List.length_append, List.length_cons, List.length_nil, List.length_take, List.length_drop]; omega)) only [gD, ibeq_f hw0, ibeq_f hh0, ↓aPre, aPost, oneW, allOne, retV, retVA, ↓reduceIte, reduceCtorEq, Nat.reduceAdd, Nat.reduceSub, Nat.reduceMul, Nat.reduceLT, Nat.reduceLeDiff, Nat.reduceEqDiff, Nat.reduceDiv, Nat.reduceMod, Nat.reducePow, Int.reduceAdd, Int.reduceSub, Int.reduceMul, Int.reduceLT, Int.reduceLE, Int.reduceEq, Int.reduceNe, Int.reducePow, Int.reduceToNat, Int.reduceNeg]
  refine call_giv (levels_u16 r hW hH 100 n hn6 (by omega) hbig (.inr hend')) ?_
  have el := tabD_len (levD .u16 w h G) (n + 1)
  simp -dsimp -implicitDefEqProofs (disch := first | omega | (simp only [List.length_append, List.length_cons, List.length_nil, List.length_take, List.length_drop]; omega)) only [gD, el, ↓aPre, aPost, oneW, allOne, retV, retVA, ↓reduceIte, reduceCtorEq, Nat.reduceAdd, Nat.reduceSub, Nat.reduceMul, Nat.reduceLT, Nat.reduceLeDiff, Nat.reduceEqDiff, Nat.reduceDiv, Nat.reduceMod, Nat.reducePow, Int.reduceAdd, Int.reduceSub, Int.reduceMul, Int.reduceLT, Int.reduceLE, Int.reduceEq, Int.reduceNe, Int.reducePow, Int.reduceToNat, Int.reduceNeg]
  refine loop_of (fun s => ∃ (i : Nat), i ≤ n + 1 ∧ s.tm 53 = .d (.c (.int .i64 i)) ∧ s.tm 52 = .d (.c (.int .i64 (n + 1 : Nat))) ∧ s.tm 51 = .d (.lst 3 (tabD (levD .u16 w h G) (n + 1))) ∧ s.tm 11 = .d (.lst 3 (tabD (levD .u16 w h G) (n + 1))) ∧ s.tm 12 = .d (.c (.int .i64 0)) ∧ s.tm 2 = .d (.c (.int .u16 y2)) ∧ s.tm 10 = .mp 36 ∧ s.hp 36 = some (.map .u16 (cm G G.length)) ∧ s.tm 0 = .d (.c (.int .i64 w)) ∧ s.tm 1 = .d (.c (.int .i64 h))) (fun s => n + 1 - (avN (s.tm 53)).toNat) ?_ ?_
  · refine ⟨0, Nat.zero_le _, ?_⟩
    simp -dsimp -implicitDefEqProofs (disch := first | omega | (simp only [List.length_append, List.length_cons, List.length_nil, List.length_take, List.length_drop]; omega)) only [Int.natCast_zero, ↓aPre, aPost, oneW, allOne, retV, retVA, ↓reduceIte, reduceCtorEq, Nat.reduceAdd, Nat.reduceSub, Nat.reduceMul, Nat.reduceLT, Nat.reduceLeDiff, Nat.reduceEqDiff, Nat.reduceDiv, Nat.reduceMod, Nat.reducePow, Int.reduceAdd, Int.reduceSub, Int.reduceMul, Int.reduceLT, Int.reduceLE, Int.reduceEq, Int.reduceNe, Int.reducePow, Int.reduceToNat, Int.reduceNeg]
  rintro s ⟨i, hi, hs⟩
  by_cases hlt : i < n + 1
  · have rl := r.lev (by decide) i
    have hli : 0 < (ll w h G i).length := by rw [rl.ln]; exact Nat.mul_pos (lw_pos hW i) (lw_pos hH i)
    have hbd0 : Bd y2 y2 G := fun j hj => by rw [hall j hj]; exact ⟨Int.le_refl _, Int.le_refl _⟩
    have hbd := hbd0.lev r (by decide) hW hH i
    obtain ⟨a, b, k1, k2, k3, k4⟩ := mnP_mem hli _ (Nat.le_refl _)
    have e1 : mnP (ll w h G i) (ll w h G i).length = y2 := by have := hbd a k1; omega
    have e2 : mxP (ll w h G i) (ll w h G i).length = y2 := by have := hbd b k2; omega
    have eg := tabD_get (levD .u16 w h G) hlt
    have rg := range_u16 rl hli
    rw [e1, e2] at rg
    simp -dsimp -implicitDefEqProofs (disch := first | omega | (simp only [List.length_append, List.length_cons, List.length_nil, List.length_take, List.length_drop]; omega)) only [hs, eg, levD, gD, ↓aPre, aPost, oneW, allOne, retV, retVA, ↓reduceIte, reduceCtorEq, Nat.reduceAdd, Nat.reduceSub, Nat.reduceMul, Nat.reduceLT, Nat.reduceLeDiff, Nat.reduceEqDiff, Nat.reduceDiv, Nat.reduceMod, Nat.reducePow, Int.reduceAdd, Int.reduceSub, Int.reduceMul, Int.reduceLT, Int.reduceLE, Int.reduceEq, Int.reduceNe, Int.reducePow, Int.reduceToNat, Int.reduceNeg]
    refine call_giv rg ?_
    simp -dsimp -implicitDefEqProofs (disch := first | omega | (simp only [List.length_append, List.length_cons, List.length_nil, List.length_take, List.length_drop]; omega)) only [hs, gD, ↓aPre, aPost, oneW, allOne, retV, retVA, ↓reduceIte, reduceCtorEq, Nat.reduceAdd, Nat.reduceSub, Nat.reduceMul, Nat.reduceLT, Nat.reduceLeDiff, Nat.reduceEqDiff, Nat.reduceDiv, Nat.reduceMod, Nat.reducePow, Int.reduceAdd, Int.reduceSub, Int.reduceMul, Int.reduceLT, Int.reduceLE, Int.reduceEq, Int.reduceNe, Int.reducePow, Int.reduceToNat, Int.reduceNeg]
    refine round_of ⟨i + 1, by omega, ?_⟩ ?_
    · simp -dsimp -implicitDefEqProofs (disch := first | omega | (simp only [List.length_append, List.length_cons, List.length_nil, List.length_take, List.length_drop]; omega)) only [hs, ↓aPre, aPost, oneW, allOne, retV, retVA, ↓reduceIte, reduceCtorEq, Nat.reduceAdd, Nat.reduceSub, Nat.reduceMul, Nat.reduceLT, Nat.reduceLeDiff, Nat.reduceEqDiff, Nat.reduceDiv, Nat.reduceMod, Nat.reducePow, Int.reduceAdd, Int.reduceSub, Int.reduceMul, Int.reduceLT, Int.reduceLE, Int.reduceEq, Int.reduceNe, Int.reducePow, Int.reduceToNat, Int.reduceNeg]
    · simp -dsimp -implicitDefEqProofs (disch := first | omega | (simp only [List.length_append, List.length_cons, List.length_nil, List.length_take, List.length_drop]; omega)) only [hs, ↓aPre, aPost, oneW, allOne, retV, retVA, ↓reduceIte, reduceCtorEq, Nat.reduceAdd, Nat.reduceSub, Nat.reduceMul, Nat.reduceLT, Nat.reduceLeDiff, Nat.reduceEqDiff, Nat.reduceDiv, Nat.reduceMod, Nat.reducePow, Int.reduceAdd, Int.reduceSub, Int.reduceMul, Int.reduceLT, Int.reduceLE, Int.reduceEq, Int.reduceNe, Int.reducePow, Int.reduceToNat, Int.reduceNeg]
      omega
  obtain rfl : i = n + 1 := by omega
  have eg := tabD_get (levD .u16 w h G) (show n < n + 1 by omega)
  have en : max ((n : Int) + 1 - 1) 0 = n := by omega
  have hdr : (tabD (levD .u16 w h G) (n + 1)).drop n = [gD .u16 1 1 (ll w h G n)] := by
    rw [tabD, List.drop_append_of_le_length (by rw [tabD_len]; exact Nat.le_refl _), List.drop_of_length_le (by rw [tabD_len]; exact Nat.le_refl _), List.nil_append, levD, hone.1, hone.2]
    rfl
  obtain ⟨p, hp⟩ : ∃ p : Nat, p = w * h := ⟨_, rfl⟩
  have hp2 : (w : Int) * (h : Int) = p := by rw [hp, Int.natCast_mul]
  have hpl : G.length = p := by rw [r.ln, hp]
  obtain ⟨q, rfl⟩ : ∃ q, p = q + 1 := ⟨p - 1, by omega⟩
  have hcm := cm_same hall q (by omega)
  rw [← hpl] at hcm
  rw [hcm] at hs
  have hn0 : ¬ (0 : Int) > n := by omega
  have hq : mget [(y2, Value.int .i64 ((q : Int) + 1))] y2 = some (.int .i64 ((q : Int) + 1)) := by rw [mget, if_pos rfl]
  have hdl : ∀ x : D, ([x] : List D).take (n + 1 - n) = [x] := fun x => by rw [show n + 1 - n = 1 from by omega]; rfl
  simp -dsimp -implicitDefEqProofs (disch := first | omega | (simp only [List.length_append, List.length_cons, List.length_nil, List.length_take, List.length_drop]; omega)) only [hs, el, Int.add_sub_cancel, hn0, hdr, hdl, gD, hq, hp2, ↓aPre, aPost, oneW, allOne, retV, retVA, ↓reduceIte, reduceCtorEq, Nat.reduceAdd, Nat.reduceSub, Nat.reduceMul, Nat.reduceLT, Nat.reduceLeDiff, Nat.reduceEqDiff, Nat.reduceDiv, Nat.reduceMod, Nat.reducePow, Int.reduceAdd, Int.reduceSub, Int.reduceMul, Int.reduceLT, Int.reduceLE, Int.reduceEq, Int.reduceNe, Int.reducePow, Int.reduceToNat, Int.reduceNeg]
  exact post_eq rfl
end Go.Proofs.Ytgjkenadiamgfaa
