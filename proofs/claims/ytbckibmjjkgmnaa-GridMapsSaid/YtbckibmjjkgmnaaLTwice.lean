/- A part of a part, inside, is a part of the whole: the law's walk. No further condition. -/
import Derived.Test.YtbckibmjjkgmnaaWCells
set_option linter.unusedSimpArgs false
set_option linter.unusedVariables false
set_option maxRecDepth 8000
set_option maxHeartbeats 4000000
namespace Go.Proofs.Ytbckibmjjkgmnaa
open Go.Eng Go.RowKit
theorem equal_t (a : List Int) (ha : a.length ≤ 140737488355328) : Giv Try.prog 30 [.lst 1 (li .i64 a), .lst 1 (li .i64 a)] (retV [.c (.bool true)]) := by
  refine Giv.of mixed c30 (Nat.le_of_ble_eq_true rfl) ?_
  simp -dsimp -implicitDefEqProofs (disch := first | omega | (simp only [List.length_append, List.length_cons, List.length_nil, List.length_take, List.length_drop]; omega)) only [a30, ↓aPre, aPost, oneW, allOne, retV, retVA, ↓reduceIte, reduceCtorEq, Nat.reduceAdd, Nat.reduceSub, Nat.reduceMul, Nat.reduceLT, Nat.reduceLeDiff, Nat.reduceEqDiff, Nat.reduceDiv, Nat.reduceMod, Nat.reducePow, Int.reduceAdd, Int.reduceSub, Int.reduceMul, Int.reduceLT, Int.reduceLE, Int.reduceEq, Int.reduceNe, Int.reducePow, Int.reduceToNat, Int.reduceNeg]
  refine loop_of (fun s => ∃ (k : Nat), k ≤ a.length ∧ s.tm 13 = .d (.c (.int .i64 k)) ∧ s.tm 12 = .d (.c (.int .i64 a.length)) ∧ s.tm 0 = .d (.lst 1 (li .i64 a)) ∧ s.tm 1 = .d (.lst 1 (li .i64 a))) (fun s => a.length - (avN (s.tm 13)).toNat) ?_ ?_
  · refine ⟨0, Nat.zero_le _, ?_⟩
    simp -dsimp -implicitDefEqProofs (disch := first | omega | (simp only [List.length_append, List.length_cons, List.length_nil, List.length_take, List.length_drop]; omega)) only [Int.natCast_zero, ↓aPre, aPost, oneW, allOne, retV, retVA, ↓reduceIte, reduceCtorEq, Nat.reduceAdd, Nat.reduceSub, Nat.reduceMul, Nat.reduceLT, Nat.reduceLeDiff, Nat.reduceEqDiff, Nat.reduceDiv, Nat.reduceMod, Nat.reducePow, Int.reduceAdd, Int.reduceSub, Int.reduceMul, Int.reduceLT, Int.reduceLE, Int.reduceEq, Int.reduceNe, Int.reducePow, Int.reduceToNat, Int.reduceNeg]
  rintro s ⟨k, hk, hs⟩
  by_cases hlt : k < a.length
  · simp -dsimp -implicitDefEqProofs (disch := first | omega | (simp only [List.length_append, List.length_cons, List.length_nil, List.length_take, List.length_drop]; omega)) only [hs, ↓aPre, aPost, oneW, allOne, retV, retVA, ↓reduceIte, reduceCtorEq, Nat.reduceAdd, Nat.reduceSub, Nat.reduceMul, Nat.reduceLT, Nat.reduceLeDiff, Nat.reduceEqDiff, Nat.reduceDiv, Nat.reduceMod, Nat.reducePow, Int.reduceAdd, Int.reduceSub, Int.reduceMul, Int.reduceLT, Int.reduceLE, Int.reduceEq, Int.reduceNe, Int.reducePow, Int.reduceToNat, Int.reduceNeg]
    refine round_of ⟨k + 1, by omega, ?_⟩ ?_
    · simp -dsimp -implicitDefEqProofs (disch := first | omega | (simp only [List.length_append, List.length_cons, List.length_nil, List.length_take, List.length_drop]; omega)) only [hs, ↓aPre, aPost, oneW, allOne, retV, retVA, ↓reduceIte, reduceCtorEq, Nat.reduceAdd, Nat.reduceSub, Nat.reduceMul, Nat.reduceLT, Nat.reduceLeDiff, Nat.reduceEqDiff, Nat.reduceDiv, Nat.reduceMod, Nat.reducePow, Int.reduceAdd, Int.reduceSub, Int.reduceMul, Int.reduceLT, Int.reduceLE, Int.reduceEq, Int.reduceNe, Int.reducePow, Int.reduceToNat, Int.reduceNeg]
    · simp -dsimp -implicitDefEqProofs (disch := first | omega | (simp only [List.length_append, List.length_cons, List.length_nil, List.length_take, List.length_drop]; omega)) only [hs, ↓aPre, aPost, oneW, allOne, retV, retVA, ↓reduceIte, reduceCtorEq, Nat.reduceAdd, Nat.reduceSub, Nat.reduceMul, Nat.reduceLT, Nat.reduceLeDiff, Nat.reduceEqDiff, Nat.reduceDiv, Nat.reduceMod, Nat.reducePow, Int.reduceAdd, Int.reduceSub, Int.reduceMul, Int.reduceLT, Int.reduceLE, Int.reduceEq, Int.reduceNe, Int.reducePow, Int.reduceToNat, Int.reduceNeg]
      omega
  · simp -dsimp -implicitDefEqProofs (disch := first | omega | (simp only [List.length_append, List.length_cons, List.length_nil, List.length_take, List.length_drop]; omega)) only [hs, ↓aPre, aPost, oneW, allOne, retV, retVA, ↓reduceIte, reduceCtorEq, Nat.reduceAdd, Nat.reduceSub, Nat.reduceMul, Nat.reduceLT, Nat.reduceLeDiff, Nat.reduceEqDiff, Nat.reduceDiv, Nat.reduceMod, Nat.reducePow, Int.reduceAdd, Int.reduceSub, Int.reduceMul, Int.reduceLT, Int.reduceLE, Int.reduceEq, Int.reduceNe, Int.reducePow, Int.reduceToNat, Int.reduceNeg]
    exact post_eq rfl
theorem new_giv (w h : Int) (n : Nat) (hf : fitP w h) (hn : w * h = n) : Giv Try.prog 35 [.c (.int .i64 w), .c (.int .i64 h)] (retV [gD w h (List.replicate n 0), .c (.int .i64 0)]) := by
  refine Giv.of mixed c35 (Nat.le_of_ble_eq_true rfl) ?_
  have hb2 := hf.2.2.2.2
  rw [hn] at hb2
  simp -dsimp -implicitDefEqProofs (disch := first | omega | (simp only [List.length_append, List.length_cons, List.length_nil, List.length_take, List.length_drop]; omega)) only [a35, ↓aPre, aPost, oneW, allOne, retV, retVA, ↓reduceIte, reduceCtorEq, Nat.reduceAdd, Nat.reduceSub, Nat.reduceMul, Nat.reduceLT, Nat.reduceLeDiff, Nat.reduceEqDiff, Nat.reduceDiv, Nat.reduceMod, Nat.reducePow, Int.reduceAdd, Int.reduceSub, Int.reduceMul, Int.reduceLT, Int.reduceLE, Int.reduceEq, Int.reduceNe, Int.reducePow, Int.reduceToNat, Int.reduceNeg]
  refine call_giv (fits_giv w h) ?_
  simp -dsimp -implicitDefEqProofs (disch := first | omega | (simp only [List.length_append, List.length_cons, List.length_nil, List.length_take, List.length_drop]; omega)) only [hf, hn, ↓aPre, aPost, oneW, allOne, retV, retVA, ↓reduceIte, reduceCtorEq, Nat.reduceAdd, Nat.reduceSub, Nat.reduceMul, Nat.reduceLT, Nat.reduceLeDiff, Nat.reduceEqDiff, Nat.reduceDiv, Nat.reduceMod, Nat.reducePow, Int.reduceAdd, Int.reduceSub, Int.reduceMul, Int.reduceLT, Int.reduceLE, Int.reduceEq, Int.reduceNe, Int.reducePow, Int.reduceToNat, Int.reduceNeg]
  refine post_eq ?_
  rw [take_all (by rw [List.length_replicate]; exact Nat.le_refl _)]
  rfl
def sqG (w : Nat) (j : Nat) : Int := 100 * ((j / w : Nat) : Int) + ((j % w : Nat) : Int)
theorem square_giv (w h : Nat) (hw : w ≤ 12) (hh : h ≤ 12) : Giv Try.prog 29 [.c (.int .i64 w), .c (.int .i64 h)] (retV [gD w h (tab (sqG w) (w * h))]) := by
  refine Giv.of mixed c29 (Nat.le_of_ble_eq_true rfl) ?_
  have hwh : w * h ≤ 12 * 12 := Nat.mul_le_mul hw hh
  have hf : fitP w h := ⟨by omega, by omega, by omega, by omega, by rw [← Int.natCast_mul]; omega⟩
  obtain ⟨n, hn⟩ : ∃ n : Nat, n = w * h := ⟨_, rfl⟩
  have hhw : h * w = n := by rw [hn, Nat.mul_comm]
  have e0 := cst_0 (sqG w) n
  have hno := new_giv w h n hf (by rw [hn, Int.natCast_mul])
  rw [e0] at hno
  simp -dsimp -implicitDefEqProofs (disch := first | omega | (simp only [List.length_append, List.length_cons, List.length_nil, List.length_take, List.length_drop]; omega)) only [a29, ↓aPre, aPost, oneW, allOne, retV, retVA, ↓reduceIte, reduceCtorEq, Nat.reduceAdd, Nat.reduceSub, Nat.reduceMul, Nat.reduceLT, Nat.reduceLeDiff, Nat.reduceEqDiff, Nat.reduceDiv, Nat.reduceMod, Nat.reducePow, Int.reduceAdd, Int.reduceSub, Int.reduceMul, Int.reduceLT, Int.reduceLE, Int.reduceEq, Int.reduceNe, Int.reducePow, Int.reduceToNat, Int.reduceNeg]
  refine call_giv hno ?_
  simp -dsimp -implicitDefEqProofs (disch := first | omega | (simp only [List.length_append, List.length_cons, List.length_nil, List.length_take, List.length_drop]; omega)) only [gD, ↓aPre, aPost, oneW, allOne, retV, retVA, ↓reduceIte, reduceCtorEq, Nat.reduceAdd, Nat.reduceSub, Nat.reduceMul, Nat.reduceLT, Nat.reduceLeDiff, Nat.reduceEqDiff, Nat.reduceDiv, Nat.reduceMod, Nat.reducePow, Int.reduceAdd, Int.reduceSub, Int.reduceMul, Int.reduceLT, Int.reduceLE, Int.reduceEq, Int.reduceNe, Int.reducePow, Int.reduceToNat, Int.reduceNeg]
  refine loop_of (fun s => ∃ (y : Nat), y ≤ h ∧ s.tm 16 = .d (.c (.int .i64 y)) ∧ s.tm 15 = .d (.c (.int .i64 h)) ∧ s.tm 0 = .d (.c (.int .i64 w)) ∧ s.tm 4 = .ptr 4 0 ∧ s.hp 4 = some (.box [.d (.c (.int .i64 0)), .d (.c (.int .i64 0)), .d (.c (.slice none 0 0))]) ∧ s.tm 5 = .ptr 5 0 ∧ s.hp 5 = some (.box [.d (.c (.int .i64 w)), .d (.c (.int .i64 h)), .d (.lst 1 (li .i64 (tab (cst (sqG w) (y * w)) n)))])) (fun s => h - (avN (s.tm 16)).toNat) ?_ ?_
  · refine ⟨0, Nat.zero_le _, ?_⟩
    simp -dsimp -implicitDefEqProofs (disch := first | omega | (simp only [List.length_append, List.length_cons, List.length_nil, List.length_take, List.length_drop]; omega)) only [gD, Int.natCast_zero, Nat.zero_mul, ↓aPre, aPost, oneW, allOne, retV, retVA, ↓reduceIte, reduceCtorEq, Nat.reduceAdd, Nat.reduceSub, Nat.reduceMul, Nat.reduceLT, Nat.reduceLeDiff, Nat.reduceEqDiff, Nat.reduceDiv, Nat.reduceMod, Nat.reducePow, Int.reduceAdd, Int.reduceSub, Int.reduceMul, Int.reduceLT, Int.reduceLE, Int.reduceEq, Int.reduceNe, Int.reducePow, Int.reduceToNat, Int.reduceNeg]
  rintro s ⟨y, hy, hs⟩
  by_cases hlt : y < h
  · simp -dsimp -implicitDefEqProofs (disch := first | omega | (simp only [List.length_append, List.length_cons, List.length_nil, List.length_take, List.length_drop]; omega)) only [hs, ↓aPre, aPost, oneW, allOne, retV, retVA, ↓reduceIte, reduceCtorEq, Nat.reduceAdd, Nat.reduceSub, Nat.reduceMul, Nat.reduceLT, Nat.reduceLeDiff, Nat.reduceEqDiff, Nat.reduceDiv, Nat.reduceMod, Nat.reducePow, Int.reduceAdd, Int.reduceSub, Int.reduceMul, Int.reduceLT, Int.reduceLE, Int.reduceEq, Int.reduceNe, Int.reducePow, Int.reduceToNat, Int.reduceNeg]
    refine loop_of (fun s => ∃ (x : Nat), x ≤ w ∧ s.tm 20 = .d (.c (.int .i64 x)) ∧ s.tm 19 = .d (.c (.int .i64 w)) ∧ s.tm 7 = .d (.c (.int .i64 y)) ∧ s.tm 16 = .d (.c (.int .i64 y)) ∧ s.tm 15 = .d (.c (.int .i64 h)) ∧ s.tm 0 = .d (.c (.int .i64 w)) ∧ s.tm 4 = .ptr 4 0 ∧ s.hp 4 = some (.box [.d (.c (.int .i64 0)), .d (.c (.int .i64 0)), .d (.c (.slice none 0 0))]) ∧ s.tm 5 = .ptr 5 0 ∧ s.hp 5 = some (.box [.d (.c (.int .i64 w)), .d (.c (.int .i64 h)), .d (.lst 1 (li .i64 (tab (cst (sqG w) (y * w + x)) n)))])) (fun s => w - (avN (s.tm 20)).toNat) ?_ ?_
    · refine ⟨0, Nat.zero_le _, ?_⟩
      simp -dsimp -implicitDefEqProofs (disch := first | omega | (simp only [List.length_append, List.length_cons, List.length_nil, List.length_take, List.length_drop]; omega)) only [hs, Int.natCast_zero, ↓aPre, aPost, oneW, allOne, retV, retVA, ↓reduceIte, reduceCtorEq, Nat.reduceAdd, Nat.reduceSub, Nat.reduceMul, Nat.reduceLT, Nat.reduceLeDiff, Nat.reduceEqDiff, Nat.reduceDiv, Nat.reduceMod, Nat.reducePow, Int.reduceAdd, Int.reduceSub, Int.reduceMul, Int.reduceLT, Int.reduceLE, Int.reduceEq, Int.reduceNe, Int.reducePow, Int.reduceToNat, Int.reduceNeg]
    rintro s2 ⟨x, hx, hs2⟩
    by_cases hxl : x < w
    · have hpl := place_lt hxl hlt
      rw [hhw] at hpl
      have hl : (tab (cst (sqG w) (y * w + x)) n).length = w * h := by rw [tab_len, hn]
      have hr : rightP w h (tab (cst (sqG w) (y * w + x)) n) := ⟨hf, by rw [hl, Int.natCast_mul]⟩
      have hse := set_t w h (tab (cst (sqG w) (y * w + x)) n) x y (100 * (y : Int) + x) hr (by omega) hl hxl hlt
      have hv : 100 * (y : Int) + x = sqG w (y * w + x) := by
        rw [sqG, Nat.add_comm, Nat.add_mul_div_right _ _ (by omega), Nat.add_mul_mod_self_right, Nat.div_eq_of_lt hxl, Nat.mod_eq_of_lt hxl, Nat.zero_add]
      have hset := cst_set (sqG w) hpl
      rw [← hv] at hset
      rw [hset] at hse
      simp -dsimp -implicitDefEqProofs (disch := first | omega | (simp only [List.length_append, List.length_cons, List.length_nil, List.length_take, List.length_drop]; omega)) only [hs2, ↓aPre, aPost, oneW, allOne, retV, retVA, ↓reduceIte, reduceCtorEq, Nat.reduceAdd, Nat.reduceSub, Nat.reduceMul, Nat.reduceLT, Nat.reduceLeDiff, Nat.reduceEqDiff, Nat.reduceDiv, Nat.reduceMod, Nat.reducePow, Int.reduceAdd, Int.reduceSub, Int.reduceMul, Int.reduceLT, Int.reduceLE, Int.reduceEq, Int.reduceNe, Int.reducePow, Int.reduceToNat, Int.reduceNeg]
      refine call_giv hse ?_
      simp -dsimp -implicitDefEqProofs (disch := first | omega | (simp only [List.length_append, List.length_cons, List.length_nil, List.length_take, List.length_drop]; omega)) only [hs2, gD, ↓aPre, aPost, oneW, allOne, retV, retVA, ↓reduceIte, reduceCtorEq, Nat.reduceAdd, Nat.reduceSub, Nat.reduceMul, Nat.reduceLT, Nat.reduceLeDiff, Nat.reduceEqDiff, Nat.reduceDiv, Nat.reduceMod, Nat.reducePow, Int.reduceAdd, Int.reduceSub, Int.reduceMul, Int.reduceLT, Int.reduceLE, Int.reduceEq, Int.reduceNe, Int.reducePow, Int.reduceToNat, Int.reduceNeg]
      refine round_of ⟨x + 1, by omega, ?_⟩ ?_
      · simp -dsimp -implicitDefEqProofs (disch := first | omega | (simp only [List.length_append, List.length_cons, List.length_nil, List.length_take, List.length_drop]; omega)) only [hs2, gD, Nat.add_assoc, ↓aPre, aPost, oneW, allOne, retV, retVA, ↓reduceIte, reduceCtorEq, Nat.reduceAdd, Nat.reduceSub, Nat.reduceMul, Nat.reduceLT, Nat.reduceLeDiff, Nat.reduceEqDiff, Nat.reduceDiv, Nat.reduceMod, Nat.reducePow, Int.reduceAdd, Int.reduceSub, Int.reduceMul, Int.reduceLT, Int.reduceLE, Int.reduceEq, Int.reduceNe, Int.reducePow, Int.reduceToNat, Int.reduceNeg]
      · simp -dsimp -implicitDefEqProofs (disch := first | omega | (simp only [List.length_append, List.length_cons, List.length_nil, List.length_take, List.length_drop]; omega)) only [hs2, ↓aPre, aPost, oneW, allOne, retV, retVA, ↓reduceIte, reduceCtorEq, Nat.reduceAdd, Nat.reduceSub, Nat.reduceMul, Nat.reduceLT, Nat.reduceLeDiff, Nat.reduceEqDiff, Nat.reduceDiv, Nat.reduceMod, Nat.reducePow, Int.reduceAdd, Int.reduceSub, Int.reduceMul, Int.reduceLT, Int.reduceLE, Int.reduceEq, Int.reduceNe, Int.reducePow, Int.reduceToNat, Int.reduceNeg]
        omega
    · obtain rfl : x = w := by omega
      simp -dsimp -implicitDefEqProofs (disch := first | omega | (simp only [List.length_append, List.length_cons, List.length_nil, List.length_take, List.length_drop]; omega)) only [hs2, ↓aPre, aPost, oneW, allOne, retV, retVA, ↓reduceIte, reduceCtorEq, Nat.reduceAdd, Nat.reduceSub, Nat.reduceMul, Nat.reduceLT, Nat.reduceLeDiff, Nat.reduceEqDiff, Nat.reduceDiv, Nat.reduceMod, Nat.reducePow, Int.reduceAdd, Int.reduceSub, Int.reduceMul, Int.reduceLT, Int.reduceLE, Int.reduceEq, Int.reduceNe, Int.reducePow, Int.reduceToNat, Int.reduceNeg]
      refine round_of ⟨y + 1, by omega, ?_⟩ ?_
      · simp -dsimp -implicitDefEqProofs (disch := first | omega | (simp only [List.length_append, List.length_cons, List.length_nil, List.length_take, List.length_drop]; omega)) only [hs2, Nat.add_mul, Nat.one_mul, ↓aPre, aPost, oneW, allOne, retV, retVA, ↓reduceIte, reduceCtorEq, Nat.reduceAdd, Nat.reduceSub, Nat.reduceMul, Nat.reduceLT, Nat.reduceLeDiff, Nat.reduceEqDiff, Nat.reduceDiv, Nat.reduceMod, Nat.reducePow, Int.reduceAdd, Int.reduceSub, Int.reduceMul, Int.reduceLT, Int.reduceLE, Int.reduceEq, Int.reduceNe, Int.reducePow, Int.reduceToNat, Int.reduceNeg]
      · simp -dsimp -implicitDefEqProofs (disch := first | omega | (simp only [List.length_append, List.length_cons, List.length_nil, List.length_take, List.length_drop]; omega)) only [hs2, hs, ↓aPre, aPost, oneW, allOne, retV, retVA, ↓reduceIte, reduceCtorEq, Nat.reduceAdd, Nat.reduceSub, Nat.reduceMul, Nat.reduceLT, Nat.reduceLeDiff, Nat.reduceEqDiff, Nat.reduceDiv, Nat.reduceMod, Nat.reducePow, Int.reduceAdd, Int.reduceSub, Int.reduceMul, Int.reduceLT, Int.reduceLE, Int.reduceEq, Int.reduceNe, Int.reducePow, Int.reduceToNat, Int.reduceNeg]
        omega
  · obtain rfl : y = h := by omega
    have ef : tab (cst (sqG w) (y * w)) n = tab (sqG w) n := by rw [hhw]; exact cst_n _ n
    rw [ef] at hs
    rw [← hn]
    simp -dsimp -implicitDefEqProofs (disch := first | omega | (simp only [List.length_append, List.length_cons, List.length_nil, List.length_take, List.length_drop]; omega)) only [hs, ↓aPre, aPost, oneW, allOne, retV, retVA, ↓reduceIte, reduceCtorEq, Nat.reduceAdd, Nat.reduceSub, Nat.reduceMul, Nat.reduceLT, Nat.reduceLeDiff, Nat.reduceEqDiff, Nat.reduceDiv, Nat.reduceMod, Nat.reducePow, Int.reduceAdd, Int.reduceSub, Int.reduceMul, Int.reduceLT, Int.reduceLE, Int.reduceEq, Int.reduceNe, Int.reducePow, Int.reduceToNat, Int.reduceNeg]
    exact post_eq rfl
theorem cut_cut (W H : Nat) (l : List Int) (aX aY aW aH bX bY bW bH : Nat) (h1 : bX + bW ≤ aW) (h2 : bY + bH ≤ aH) :
    grL (cutG aW aH (grL (cutG W H l aX aY) aH aW) bX bY) bH bW = grL (cutG W H l (aX + bX) (aY + bY)) bH bW := grL_congr fun i j hi hj => by
  rw [cutG, show min (bY + i) (aH - 1) = bY + i by omega, show min (bX + j) (aW - 1) = bX + j by omega, grL_at _ (by omega) (by omega), cutG, cutG, ← Nat.add_assoc, ← Nat.add_assoc]
theorem wrap_u64' (x : Int) : ∃ q : Nat, IntKind.u64.wrap x = q ∧ q < 18446744073709551616 := by
  refine ⟨(IntKind.u64.wrap x).toNat, ?_, ?_⟩ <;> · simp [IntKind.wrap, IntKind.signed, IntKind.bits]; try omega
theorem gridTwice_giv (y0 : (Int) × (Int)) (h0 : ((-9223372036854775808 ≤ y0.1 ∧ y0.1 ≤ 9223372036854775807) ∧ (-9223372036854775808 ≤ y0.2 ∧ y0.2 ≤ 9223372036854775807))) (y1 : (Int) × (Int) × (Int) × (Int)) (h1 : ((0 ≤ y1.1 ∧ y1.1 ≤ 255) ∧ (0 ≤ y1.2.1 ∧ y1.2.1 ≤ 255) ∧ (0 ≤ y1.2.2.1 ∧ y1.2.2.1 ≤ 255) ∧ (0 ≤ y1.2.2.2 ∧ y1.2.2.2 ≤ 255))) (y2 : (Int) × (Int) × (Int) × (Int)) (h2 : ((0 ≤ y2.1 ∧ y2.1 ≤ 255) ∧ (0 ≤ y2.2.1 ∧ y2.2.1 ≤ 255) ∧ (0 ≤ y2.2.2.1 ∧ y2.2.2.1 ≤ 255) ∧ (0 ≤ y2.2.2.2 ∧ y2.2.2.2 ≤ 255))) : Giv Try.prog 7 [.agg [.c (.int .i64 y0.1), .c (.int .i64 y0.2)], .agg [.c (.int .u8 y1.1), .c (.int .u8 y1.2.1), .c (.int .u8 y1.2.2.1), .c (.int .u8 y1.2.2.2)], .agg [.c (.int .u8 y2.1), .c (.int .u8 y2.2.1), .c (.int .u8 y2.2.2.1), .c (.int .u8 y2.2.2.2)]] (.d (.c (.bool true))) := by
  obtain ⟨u0, u1⟩ := y0
  obtain ⟨r0, r1, r2, r3⟩ := y1
  obtain ⟨s0, s1, s2, s3⟩ := y2
  simp only at h0 h1 h2
  obtain ⟨r0, rfl⟩ : ∃ n : Nat, r0 = n := ⟨r0.toNat, by omega⟩
  obtain ⟨r1, rfl⟩ : ∃ n : Nat, r1 = n := ⟨r1.toNat, by omega⟩
  obtain ⟨r2, rfl⟩ : ∃ n : Nat, r2 = n := ⟨r2.toNat, by omega⟩
  obtain ⟨r3, rfl⟩ : ∃ n : Nat, r3 = n := ⟨r3.toNat, by omega⟩
  obtain ⟨s0, rfl⟩ : ∃ n : Nat, s0 = n := ⟨s0.toNat, by omega⟩
  obtain ⟨s1, rfl⟩ : ∃ n : Nat, s1 = n := ⟨s1.toNat, by omega⟩
  obtain ⟨s2, rfl⟩ : ∃ n : Nat, s2 = n := ⟨s2.toNat, by omega⟩
  obtain ⟨s3, rfl⟩ : ∃ n : Nat, s3 = n := ⟨s3.toNat, by omega⟩
  obtain ⟨q0, hq0, hq0'⟩ := wrap_u64' u0
  obtain ⟨q1, hq1, hq1'⟩ := wrap_u64' u1
  obtain ⟨W, hW⟩ : ∃ W : Nat, W = 2 + q0 % 9 := ⟨_, rfl⟩
  obtain ⟨H, hH⟩ : ∃ H : Nat, H = 2 + q1 % 9 := ⟨_, rfl⟩
  have hW1 : 2 + (q0 : Int) % 9 = W := by omega
  have hH1 : 2 + (q1 : Int) % 9 = H := by omega
  obtain ⟨aX, haX⟩ : ∃ a : Nat, a = r0 % W := ⟨_, rfl⟩
  obtain ⟨aY, haY⟩ : ∃ a : Nat, a = r1 % H := ⟨_, rfl⟩
  have haX1 : (r0 : Int) % (W : Int) = aX := by rw [haX]; simp
  have haY1 : (r1 : Int) % (H : Int) = aY := by rw [haY]; simp
  have haX2 : aX < W := by rw [haX]; exact Nat.mod_lt _ (by omega)
  have haY2 : aY < H := by rw [haY]; exact Nat.mod_lt _ (by omega)
  obtain ⟨dW, hdW⟩ : ∃ a : Nat, a = W - aX := ⟨_, rfl⟩
  obtain ⟨dH, hdH⟩ : ∃ a : Nat, a = H - aY := ⟨_, rfl⟩
  have hdW1 : (W : Int) - aX = dW := by omega
  have hdH1 : (H : Int) - aY = dH := by omega
  obtain ⟨mW, hmW⟩ : ∃ a : Nat, a = r2 % dW := ⟨_, rfl⟩
  obtain ⟨mH, hmH⟩ : ∃ a : Nat, a = r3 % dH := ⟨_, rfl⟩
  have hmW1 : (r2 : Int) % (dW : Int) = mW := by rw [hmW]; simp
  have hmH1 : (r3 : Int) % (dH : Int) = mH := by rw [hmH]; simp
  have hmW2 : mW < dW := by rw [hmW]; exact Nat.mod_lt _ (by omega)
  have hmH2 : mH < dH := by rw [hmH]; exact Nat.mod_lt _ (by omega)
  obtain ⟨aW, haW⟩ : ∃ a : Nat, a = 1 + mW := ⟨_, rfl⟩
  obtain ⟨aH, haH⟩ : ∃ a : Nat, a = 1 + mH := ⟨_, rfl⟩
  have haW1 : 1 + (mW : Int) = aW := by omega
  have haH1 : 1 + (mH : Int) = aH := by omega
  obtain ⟨bX, hbX⟩ : ∃ a : Nat, a = s0 % aW := ⟨_, rfl⟩
  obtain ⟨bY, hbY⟩ : ∃ a : Nat, a = s1 % aH := ⟨_, rfl⟩
  have hbX1 : (s0 : Int) % (aW : Int) = bX := by rw [hbX]; simp
  have hbY1 : (s1 : Int) % (aH : Int) = bY := by rw [hbY]; simp
  have hbX2 : bX < aW := by rw [hbX]; exact Nat.mod_lt _ (by omega)
  have hbY2 : bY < aH := by rw [hbY]; exact Nat.mod_lt _ (by omega)
  obtain ⟨eW, heW⟩ : ∃ a : Nat, a = aW - bX := ⟨_, rfl⟩
  obtain ⟨eH, heH⟩ : ∃ a : Nat, a = aH - bY := ⟨_, rfl⟩
  have heW1 : (aW : Int) - bX = eW := by omega
  have heH1 : (aH : Int) - bY = eH := by omega
  obtain ⟨nW, hnW⟩ : ∃ a : Nat, a = s2 % eW := ⟨_, rfl⟩
  obtain ⟨nH, hnH⟩ : ∃ a : Nat, a = s3 % eH := ⟨_, rfl⟩
  have hnW1 : (s2 : Int) % (eW : Int) = nW := by rw [hnW]; simp
  have hnH1 : (s3 : Int) % (eH : Int) = nH := by rw [hnH]; simp
  have hnW2 : nW < eW := by rw [hnW]; exact Nat.mod_lt _ (by omega)
  have hnH2 : nH < eH := by rw [hnH]; exact Nat.mod_lt _ (by omega)
  obtain ⟨bW, hbW⟩ : ∃ a : Nat, a = 1 + nW := ⟨_, rfl⟩
  obtain ⟨bH, hbH⟩ : ∃ a : Nat, a = 1 + nH := ⟨_, rfl⟩
  have hbW1 : 1 + (nW : Int) = bW := by omega
  have hbH1 : 1 + (nH : Int) = bH := by omega
  have hW9 : 2 ≤ W ∧ W ≤ 10 := by omega
  have hH9 : 2 ≤ H ∧ H ≤ 10 := by omega
  have hA : aX + aW ≤ W ∧ aY + aH ≤ H ∧ bX + bW ≤ aW ∧ bY + bH ≤ aH ∧ 1 ≤ bW ∧ 1 ≤ bH := by omega
  clear haX haY hmW hmH hbX hbY hnW hnH hW hH
  have hWH : W * H ≤ 10 * 10 := Nat.mul_le_mul hW9.2 hH9.2
  have haWH : aW * aH ≤ 10 * 10 := Nat.mul_le_mul (by omega) (by omega)
  have hbWH : bW * bH ≤ 10 * 10 := Nat.mul_le_mul (by omega) (by omega)
  have hsl : (tab (sqG W) (W * H)).length = W * H := tab_len ..
  have hsq := square_giv W H (by omega) (by omega)
  obtain ⟨l, hle⟩ : ∃ l, l = tab (sqG W) (W * H) := ⟨_, rfl⟩
  rw [← hle] at hsl hsq
  have hfit : ∀ a b : Nat, a * b ≤ 10 * 10 → a ≤ 10 → b ≤ 10 → fitP a b := fun a b h h1 h2 => ⟨by omega, by omega, by omega, by omega, by rw [← Int.natCast_mul]; omega⟩
  have hr : rightP W H l := ⟨hfit W H hWH (by omega) (by omega), by rw [hsl, Int.natCast_mul]⟩
  have hpl : (grL (cutG W H l aX aY) aH aW).length = aW * aH := by rw [grL_len, Nat.mul_comm]
  have hpr : rightP aW aH (grL (cutG W H l aX aY) aH aW) := ⟨hfit aW aH haWH (by omega) (by omega), by rw [hpl, Int.natCast_mul]⟩
  have hc1 := cut_t W H l aX aY aW aH hr (by omega) (by omega) (by omega) hsl (by omega) (by omega) (by omega) (by omega) (by omega)
  have hc2 := cut_t aW aH (grL (cutG W H l aX aY) aH aW) bX bY bW bH hpr (by omega) (by omega) (by omega) hpl (by omega) (by omega) (by omega) (by omega) (by omega)
  have hc3 := cut_t W H l (aX + bX) (aY + bY) bW bH hr (by omega) (by omega) (by omega) hsl (by omega) (by omega) (by omega) (by omega) (by omega)
  rw [cut_cut W H l aX aY aW aH bX bY bW bH (by omega) (by omega)] at hc2
  simp only [rD, Int.natCast_add] at hc1 hc2 hc3
  refine Giv.of (out := [.c (.bool true)]) mixed c7 (Nat.le_of_ble_eq_true rfl) ?_
  simp -dsimp -implicitDefEqProofs (disch := first | omega | (simp only [List.length_append, List.length_cons, List.length_nil, List.length_take, List.length_drop]; omega)) only [a7, ↓aPre, aPost, oneW, allOne, retV, retVA, ↓reduceIte, reduceCtorEq, Nat.reduceAdd, Nat.reduceSub, Nat.reduceMul, Nat.reduceLT, Nat.reduceLeDiff, Nat.reduceEqDiff, Nat.reduceDiv, Nat.reduceMod, Nat.reducePow, Int.reduceAdd, Int.reduceSub, Int.reduceMul, Int.reduceLT, Int.reduceLE, Int.reduceEq, Int.reduceNe, Int.reducePow, Int.reduceToNat, Int.reduceNeg]
  refine call_giv lives_giv ?_
  simp -dsimp -implicitDefEqProofs (disch := first | omega | (simp only [List.length_append, List.length_cons, List.length_nil, List.length_take, List.length_drop]; omega)) only [hq0, hq1, hW1, hH1, ↓aPre, aPost, oneW, allOne, retV, retVA, ↓reduceIte, reduceCtorEq, Nat.reduceAdd, Nat.reduceSub, Nat.reduceMul, Nat.reduceLT, Nat.reduceLeDiff, Nat.reduceEqDiff, Nat.reduceDiv, Nat.reduceMod, Nat.reducePow, Int.reduceAdd, Int.reduceSub, Int.reduceMul, Int.reduceLT, Int.reduceLE, Int.reduceEq, Int.reduceNe, Int.reducePow, Int.reduceToNat, Int.reduceNeg]
  refine call_giv hsq ?_
  simp -dsimp -implicitDefEqProofs (disch := first | omega | (simp only [List.length_append, List.length_cons, List.length_nil, List.length_take, List.length_drop]; omega)) only [gD, haX1, haY1, hdW1, hdH1, hmW1, hmH1, haW1, haH1, hbX1, hbY1, heW1, heH1, hnW1, hnH1, hbW1, hbH1, ↓aPre, aPost, oneW, allOne, retV, retVA, ↓reduceIte, reduceCtorEq, Nat.reduceAdd, Nat.reduceSub, Nat.reduceMul, Nat.reduceLT, Nat.reduceLeDiff, Nat.reduceEqDiff, Nat.reduceDiv, Nat.reduceMod, Nat.reducePow, Int.reduceAdd, Int.reduceSub, Int.reduceMul, Int.reduceLT, Int.reduceLE, Int.reduceEq, Int.reduceNe, Int.reducePow, Int.reduceToNat, Int.reduceNeg]
  refine call_giv hc1 ?_
  simp -dsimp -implicitDefEqProofs (disch := first | omega | (simp only [List.length_append, List.length_cons, List.length_nil, List.length_take, List.length_drop]; omega)) only [gD, haX1, haY1, hdW1, hdH1, hmW1, hmH1, haW1, haH1, hbX1, hbY1, heW1, heH1, hnW1, hnH1, hbW1, hbH1, ↓aPre, aPost, oneW, allOne, retV, retVA, ↓reduceIte, reduceCtorEq, Nat.reduceAdd, Nat.reduceSub, Nat.reduceMul, Nat.reduceLT, Nat.reduceLeDiff, Nat.reduceEqDiff, Nat.reduceDiv, Nat.reduceMod, Nat.reducePow, Int.reduceAdd, Int.reduceSub, Int.reduceMul, Int.reduceLT, Int.reduceLE, Int.reduceEq, Int.reduceNe, Int.reducePow, Int.reduceToNat, Int.reduceNeg]
  refine call_giv hc2 ?_
  simp -dsimp -implicitDefEqProofs (disch := first | omega | (simp only [List.length_append, List.length_cons, List.length_nil, List.length_take, List.length_drop]; omega)) only [gD, haX1, haY1, hdW1, hdH1, hmW1, hmH1, haW1, haH1, hbX1, hbY1, heW1, heH1, hnW1, hnH1, hbW1, hbH1, ↓aPre, aPost, oneW, allOne, retV, retVA, ↓reduceIte, reduceCtorEq, Nat.reduceAdd, Nat.reduceSub, Nat.reduceMul, Nat.reduceLT, Nat.reduceLeDiff, Nat.reduceEqDiff, Nat.reduceDiv, Nat.reduceMod, Nat.reducePow, Int.reduceAdd, Int.reduceSub, Int.reduceMul, Int.reduceLT, Int.reduceLE, Int.reduceEq, Int.reduceNe, Int.reducePow, Int.reduceToNat, Int.reduceNeg]
  refine call_giv hc3 ?_
  simp -dsimp -implicitDefEqProofs (disch := first | omega | (simp only [List.length_append, List.length_cons, List.length_nil, List.length_take, List.length_drop]; omega)) only [gD, ↓aPre, aPost, oneW, allOne, retV, retVA, ↓reduceIte, reduceCtorEq, Nat.reduceAdd, Nat.reduceSub, Nat.reduceMul, Nat.reduceLT, Nat.reduceLeDiff, Nat.reduceEqDiff, Nat.reduceDiv, Nat.reduceMod, Nat.reducePow, Int.reduceAdd, Int.reduceSub, Int.reduceMul, Int.reduceLT, Int.reduceLE, Int.reduceEq, Int.reduceNe, Int.reducePow, Int.reduceToNat, Int.reduceNeg]
  refine call_giv (equal_t _ (by rw [grL_len, Nat.mul_comm]; omega)) ?_
  simp -dsimp -implicitDefEqProofs (disch := first | omega | (simp only [List.length_append, List.length_cons, List.length_nil, List.length_take, List.length_drop]; omega)) only [gD, ↓aPre, aPost, oneW, allOne, retV, retVA, ↓reduceIte, reduceCtorEq, Nat.reduceAdd, Nat.reduceSub, Nat.reduceMul, Nat.reduceLT, Nat.reduceLeDiff, Nat.reduceEqDiff, Nat.reduceDiv, Nat.reduceMod, Nat.reducePow, Int.reduceAdd, Int.reduceSub, Int.reduceMul, Int.reduceLT, Int.reduceLE, Int.reduceEq, Int.reduceNe, Int.reducePow, Int.reduceToNat, Int.reduceNeg]
  exact post_eq rfl
end Go.Proofs.Ytbckibmjjkgmnaa
