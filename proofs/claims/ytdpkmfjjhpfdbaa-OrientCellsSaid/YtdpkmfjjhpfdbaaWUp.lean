/- A page as it is seen; the reference's mirror, flip and swap. No condition but what each says. -/
import Derived.Test.YtdpkmfjjhpfdbaaWGrid
set_option linter.unusedSimpArgs false
set_option linter.unusedVariables false
set_option maxRecDepth 8000
set_option maxHeartbeats 2000000
namespace Go.Proofs.Ytdpkmfjjhpfdbaa
open Go.Eng Go.RowKit
/-- row by row, B in a row -/
def grF (g : Nat → Nat → Int) (B : Nat) (j : Nat) : Int := g (j / B) (j % B)
def grL (g : Nat → Nat → Int) (A B : Nat) : List Int := tab (grF g B) (A * B)
theorem grF_at (g : Nat → Nat → Int) {B i j : Nat} (h : j < B) : grF g B (i * B + j) = g i j := by
  unfold grF
  rw [Nat.add_comm, Nat.add_mul_div_right _ _ (by omega), Nat.add_mul_mod_self_right, Nat.div_eq_of_lt h, Nat.mod_eq_of_lt h, Nat.zero_add]
theorem grL_len (g : Nat → Nat → Int) (A B : Nat) : (grL g A B).length = A * B := tab_len ..
theorem grL_at (g : Nat → Nat → Int) {A B i j : Nat} (h : j < B) (hi : i < A) : (grL g A B).getD (i * B + j) 0 = g i j := by
  have h2 : i * B + j < A * B := by
    have : (i + 1) * B ≤ A * B := Nat.mul_le_mul_right _ hi
    rw [Nat.add_mul, Nat.one_mul] at this
    omega
  rw [grL, tab_get _ h2, grF_at g h]
theorem grL_congr {g g' : Nat → Nat → Int} {A B : Nat} (h : ∀ i j, i < A → j < B → g i j = g' i j) : grL g A B = grL g' A B := tab_congr _ fun m hm => by
  have hB : 0 < B := by
    rcases Nat.eq_zero_or_pos B with rfl | h
    · simp at hm
    · exact h
  exact h _ _ (Nat.div_lt_of_lt_mul (by rw [Nat.mul_comm]; exact hm)) (Nat.mod_lt _ hB)
theorem place_lt {A B i j : Nat} (h : j < B) (hi : i < A) : i * B + j < A * B := by
  have : (i + 1) * B ≤ A * B := Nat.mul_le_mul_right _ hi
  rw [Nat.add_mul, Nat.one_mul] at this
  omega
def upW (k : Int) (W H : Nat) : Nat := if 5 ≤ k then H else W
def upH (k : Int) (W H : Nat) : Nat := if 5 ≤ k then W else H
def upG (k : Int) (W H : Nat) (l : List Int) (y x : Nat) : Int := l.getD (tY k x y W H * W + tX k x y W H).toNat 0
def upL (k : Int) (W H : Nat) (l : List Int) : List Int := grL (upG k W H l) (upH k W H) (upW k W H)
theorem tXY {k : Int} {W H x y : Nat} (hk : wayP k) (hx : x < upW k W H) (hy : y < upH k W H) : ∃ a b : Nat, tX k x y W H = a ∧ tY k x y W H = b ∧ a < W ∧ b < H := by
  unfold upW at hx; unfold upH at hy
  obtain rfl | rfl | rfl | rfl | rfl | rfl | rfl | rfl : k = 1 ∨ k = 2 ∨ k = 3 ∨ k = 4 ∨ k = 5 ∨ k = 6 ∨ k = 7 ∨ k = 8 := by unfold wayP at hk; omega
  all_goals
    simp only [tX, tY, Int.reduceEq, Int.reduceLE, if_true, if_false, false_or, or_false, or_true, true_or] at hx hy ⊢
    refine ⟨(_ : Int).toNat, (_ : Int).toNat, (Int.toNat_of_nonneg ?_).symm, (Int.toNat_of_nonneg ?_).symm, ?_, ?_⟩ <;> omega
theorem up_t (k : Int) (W H : Nat) (l : List Int) (hk : wayP k) (hW : W ≤ 4194304) (hH : H ≤ 4194304) (hWH : W * H ≤ 4194304) (hl : l.length = W * H) : Giv Try.prog 9 [gD W H l, .c (.int .i64 k)] (retV [gD (upW k W H) (upH k W H) (upL k W H l), .c (.int .i64 0)]) := by
  have hr : rightP W H l := ⟨⟨by omega, by omega, by omega, by omega, by rw [← Int.natCast_mul]; omega⟩, by rw [hl, Int.natCast_mul]⟩
  have hA : upH k W H ≤ 4194304 := by unfold upH; split <;> omega
  have hB : upW k W H ≤ 4194304 := by unfold upW; split <;> omega
  have hAB : upH k W H * upW k W H ≤ 4194304 := by
    unfold upH upW
    split
    · exact hWH
    · rw [Nat.mul_comm]; exact hWH
  refine Giv.of mixed c9 (Nat.le_of_ble_eq_true rfl) ?_
  obtain ⟨g, hg⟩ : ∃ g, g = grF (upG k W H l) (upW k W H) := ⟨_, rfl⟩
  have hkk := hk
  unfold wayP at hkk
  simp -dsimp -implicitDefEqProofs (disch := first | omega | (simp only [List.length_append, List.length_cons, List.length_nil, List.length_take, List.length_drop]; omega)) only [a9, gD, ↓aPre, aPost, oneW, allOne, retV, retVA, ↓reduceIte, reduceCtorEq, Nat.reduceAdd, Nat.reduceSub, Nat.reduceMul, Nat.reduceLT, Nat.reduceLeDiff, Nat.reduceEqDiff, Nat.reduceDiv, Nat.reduceMod, Nat.reducePow, Int.reduceAdd, Int.reduceSub, Int.reduceMul, Int.reduceLT, Int.reduceLE, Int.reduceEq, Int.reduceNe, Int.reducePow, Int.reduceToNat, Int.reduceNeg]
  refine call_giv (way_giv k) ?_
  simp -dsimp -implicitDefEqProofs (disch := first | omega | (simp only [List.length_append, List.length_cons, List.length_nil, List.length_take, List.length_drop]; omega)) only [hk, gD, ↓aPre, aPost, oneW, allOne, retV, retVA, ↓reduceIte, reduceCtorEq, Nat.reduceAdd, Nat.reduceSub, Nat.reduceMul, Nat.reduceLT, Nat.reduceLeDiff, Nat.reduceEqDiff, Nat.reduceDiv, Nat.reduceMod, Nat.reducePow, Int.reduceAdd, Int.reduceSub, Int.reduceMul, Int.reduceLT, Int.reduceLE, Int.reduceEq, Int.reduceNe, Int.reducePow, Int.reduceToNat, Int.reduceNeg]
  refine call_giv (right_giv W H l (by omega)) ?_
  simp -dsimp -implicitDefEqProofs (disch := first | omega | (simp only [List.length_append, List.length_cons, List.length_nil, List.length_take, List.length_drop]; omega)) only [hr, hk, ↓aPre, aPost, oneW, allOne, retV, retVA, ↓reduceIte, reduceCtorEq, Nat.reduceAdd, Nat.reduceSub, Nat.reduceMul, Nat.reduceLT, Nat.reduceLeDiff, Nat.reduceEqDiff, Nat.reduceDiv, Nat.reduceMod, Nat.reducePow, Int.reduceAdd, Int.reduceSub, Int.reduceMul, Int.reduceLT, Int.reduceLE, Int.reduceEq, Int.reduceNe, Int.reducePow, Int.reduceToNat, Int.reduceNeg]
  by_cases h5 : 5 ≤ k
  · have hBe : upW k W H = H := by rw [upW, if_pos h5]
    have hAe : upH k W H = W := by rw [upH, if_pos h5]
    rw [hAe] at hA hAB
    rw [hBe] at hB hAB hg
    rw [hAe, hBe]
    simp -dsimp -implicitDefEqProofs (disch := first | omega | (simp only [List.length_append, List.length_cons, List.length_nil, List.length_take, List.length_drop]; omega)) only [↓aPre, aPost, oneW, allOne, retV, retVA, ↓reduceIte, reduceCtorEq, Nat.reduceAdd, Nat.reduceSub, Nat.reduceMul, Nat.reduceLT, Nat.reduceLeDiff, Nat.reduceEqDiff, Nat.reduceDiv, Nat.reduceMod, Nat.reducePow, Int.reduceAdd, Int.reduceSub, Int.reduceMul, Int.reduceLT, Int.reduceLE, Int.reduceEq, Int.reduceNe, Int.reducePow, Int.reduceToNat, Int.reduceNeg]
    refine loop_nilB 8 2 100 1 [.d (.c (.int .i64 H)), .d (.c (.int .i64 W)), .d (.c (.slice none 0 0))] (fun s => ∃ (y : Nat), y ≤ W ∧ s.tm 1 = .d (.c (.int .i64 k)) ∧ s.tm 2 = .ptr 2 0 ∧ s.hp 2 = some (.box [.d (.c (.int .i64 W)), .d (.c (.int .i64 H)), .d (.lst 1 (li .i64 l))]) ∧ s.tm 4 = .ptr 4 0 ∧ s.hp 4 = some (.box [.d (.c (.int .i64 0)), .d (.c (.int .i64 0)), .d (.c (.slice none 0 0))]) ∧ s.tm 6 = .d (.c (.int .i64 H)) ∧ s.tm 8 = .ptr 8 0 ∧ s.tm 33 = .d (.c (.int .i64 W)) ∧ s.tm 34 = .d (.c (.int .i64 y)) ∧ s.hp 8 = some (.box [.d (.c (.int .i64 H)), .d (.c (.int .i64 W)), .sl 100 1 0 (y * H)]) ∧ s.hp 100 = some (.row 1 (li .i64 (tab g (y * H))))) (fun s => W - (avN (s.tm 34)).toNat) ?_ rfl (by decide) (by decide) ?_ ?_
    · simp -dsimp -implicitDefEqProofs (disch := first | omega | (simp only [List.length_append, List.length_cons, List.length_nil, List.length_take, List.length_drop]; omega)) only [↓aPre, aPost, oneW, allOne, retV, retVA, ↓reduceIte, reduceCtorEq, Nat.reduceAdd, Nat.reduceSub, Nat.reduceMul, Nat.reduceLT, Nat.reduceLeDiff, Nat.reduceEqDiff, Nat.reduceDiv, Nat.reduceMod, Nat.reducePow, Int.reduceAdd, Int.reduceSub, Int.reduceMul, Int.reduceLT, Int.reduceLE, Int.reduceEq, Int.reduceNe, Int.reducePow, Int.reduceToNat, Int.reduceNeg]
    · refine ⟨0, Nat.zero_le _, ?_⟩
      simp -dsimp -implicitDefEqProofs (disch := first | omega | (simp only [List.length_append, List.length_cons, List.length_nil, List.length_take, List.length_drop]; omega)) only [tab, Int.natCast_zero, Nat.zero_mul, List.set_cons_succ, List.set_cons_zero, ↓aPre, aPost, oneW, allOne, retV, retVA, ↓reduceIte, reduceCtorEq, Nat.reduceAdd, Nat.reduceSub, Nat.reduceMul, Nat.reduceLT, Nat.reduceLeDiff, Nat.reduceEqDiff, Nat.reduceDiv, Nat.reduceMod, Nat.reducePow, Int.reduceAdd, Int.reduceSub, Int.reduceMul, Int.reduceLT, Int.reduceLE, Int.reduceEq, Int.reduceNe, Int.reducePow, Int.reduceToNat, Int.reduceNeg]
    rintro s ⟨y, hy, hs⟩
    by_cases hlt : y < W
    · simp -dsimp -implicitDefEqProofs (disch := first | omega | (simp only [List.length_append, List.length_cons, List.length_nil, List.length_take, List.length_drop]; omega)) only [hs, ↓aPre, aPost, oneW, allOne, retV, retVA, ↓reduceIte, reduceCtorEq, Nat.reduceAdd, Nat.reduceSub, Nat.reduceMul, Nat.reduceLT, Nat.reduceLeDiff, Nat.reduceEqDiff, Nat.reduceDiv, Nat.reduceMod, Nat.reducePow, Int.reduceAdd, Int.reduceSub, Int.reduceMul, Int.reduceLT, Int.reduceLE, Int.reduceEq, Int.reduceNe, Int.reducePow, Int.reduceToNat, Int.reduceNeg]
      refine loop_of (fun s => ∃ (x : Nat), x ≤ H ∧ s.tm 1 = .d (.c (.int .i64 k)) ∧ s.tm 2 = .ptr 2 0 ∧ s.hp 2 = some (.box [.d (.c (.int .i64 W)), .d (.c (.int .i64 H)), .d (.lst 1 (li .i64 l))]) ∧ s.tm 4 = .ptr 4 0 ∧ s.hp 4 = some (.box [.d (.c (.int .i64 0)), .d (.c (.int .i64 0)), .d (.c (.slice none 0 0))]) ∧ s.tm 6 = .d (.c (.int .i64 H)) ∧ s.tm 8 = .ptr 8 0 ∧ s.tm 33 = .d (.c (.int .i64 W)) ∧ s.tm 34 = .d (.c (.int .i64 y)) ∧ s.tm 9 = .d (.c (.int .i64 y)) ∧ s.tm 37 = .d (.c (.int .i64 H)) ∧ s.tm 38 = .d (.c (.int .i64 x)) ∧ s.hp 8 = some (.box [.d (.c (.int .i64 H)), .d (.c (.int .i64 W)), .sl 100 1 0 (y * H + x)]) ∧ s.hp 100 = some (.row 1 (li .i64 (tab g (y * H + x))))) (fun s => H - (avN (s.tm 38)).toNat) ?_ ?_
      · refine ⟨0, Nat.zero_le _, ?_⟩
        simp -dsimp -implicitDefEqProofs (disch := first | omega | (simp only [List.length_append, List.length_cons, List.length_nil, List.length_take, List.length_drop]; omega)) only [hs, Int.natCast_zero, ↓aPre, aPost, oneW, allOne, retV, retVA, ↓reduceIte, reduceCtorEq, Nat.reduceAdd, Nat.reduceSub, Nat.reduceMul, Nat.reduceLT, Nat.reduceLeDiff, Nat.reduceEqDiff, Nat.reduceDiv, Nat.reduceMod, Nat.reducePow, Int.reduceAdd, Int.reduceSub, Int.reduceMul, Int.reduceLT, Int.reduceLE, Int.reduceEq, Int.reduceNe, Int.reducePow, Int.reduceToNat, Int.reduceNeg]
      rintro s2 ⟨x, hx, hs2⟩
      have el := tab_len g (y * H + x)
      by_cases hxl : x < H
      · obtain ⟨a, b, ha, hb, haW, hbH⟩ := tXY (W := W) (H := H) (k := k) hk (by omega : x < upW k W H) (by omega : y < upH k W H)
        have hpl := place_lt haW hbH
        have hpl2 := place_lt hxl hlt
        have hW0 : H * W ≤ 4194304 := by rw [Nat.mul_comm]; exact hWH
        have hll : l.length = H * W := by rw [hl, Nat.mul_comm]
        obtain ⟨p, hp⟩ : ∃ p : Nat, p = b * W := ⟨_, rfl⟩
        have hp2 : (b : Int) * (W : Int) = p := by rw [hp, Int.natCast_mul]
        rw [← hp] at hpl
        have hgv : g (y * H + x) = l.getD (p + a) 0 := by
          rw [hg, grF_at _ hxl, upG, ha, hb, hp2]
          congr 1
        have e1 : ((p : Int) + a).toNat = p + a := by omega
        have et : tab g (y * H + (x + 1)) = tab g (y * H + x) ++ [g (y * H + x)] := rfl
        simp -dsimp -implicitDefEqProofs (disch := first | omega | (simp only [List.length_append, List.length_cons, List.length_nil, List.length_take, List.length_drop]; omega)) only [hs2, ↓aPre, aPost, oneW, allOne, retV, retVA, ↓reduceIte, reduceCtorEq, Nat.reduceAdd, Nat.reduceSub, Nat.reduceMul, Nat.reduceLT, Nat.reduceLeDiff, Nat.reduceEqDiff, Nat.reduceDiv, Nat.reduceMod, Nat.reducePow, Int.reduceAdd, Int.reduceSub, Int.reduceMul, Int.reduceLT, Int.reduceLE, Int.reduceEq, Int.reduceNe, Int.reducePow, Int.reduceToNat, Int.reduceNeg]
        have ht := turned_giv k x y W H hk (by omega) (by omega) (by omega) (by omega)
        refine call_giv ht ?_
        simp -dsimp -implicitDefEqProofs (disch := first | omega | (simp only [List.length_append, List.length_cons, List.length_nil, List.length_take, List.length_drop]; omega)) only [hs2, ha, hb, hp2, e1, el, ↓aPre, aPost, oneW, allOne, retV, retVA, ↓reduceIte, reduceCtorEq, Nat.reduceAdd, Nat.reduceSub, Nat.reduceMul, Nat.reduceLT, Nat.reduceLeDiff, Nat.reduceEqDiff, Nat.reduceDiv, Nat.reduceMod, Nat.reducePow, Int.reduceAdd, Int.reduceSub, Int.reduceMul, Int.reduceLT, Int.reduceLE, Int.reduceEq, Int.reduceNe, Int.reducePow, Int.reduceToNat, Int.reduceNeg]
        refine round_of ⟨x + 1, by omega, ?_⟩ ?_
        · simp -dsimp -implicitDefEqProofs (disch := first | omega | (simp only [List.length_append, List.length_cons, List.length_nil, List.length_take, List.length_drop]; omega)) only [hs2, ha, hb, hp2, e1, el, ← hgv, et, Nat.add_assoc, ↓aPre, aPost, oneW, allOne, retV, retVA, ↓reduceIte, reduceCtorEq, Nat.reduceAdd, Nat.reduceSub, Nat.reduceMul, Nat.reduceLT, Nat.reduceLeDiff, Nat.reduceEqDiff, Nat.reduceDiv, Nat.reduceMod, Nat.reducePow, Int.reduceAdd, Int.reduceSub, Int.reduceMul, Int.reduceLT, Int.reduceLE, Int.reduceEq, Int.reduceNe, Int.reducePow, Int.reduceToNat, Int.reduceNeg]
        · simp -dsimp -implicitDefEqProofs (disch := first | omega | (simp only [List.length_append, List.length_cons, List.length_nil, List.length_take, List.length_drop]; omega)) only [hs2, ↓aPre, aPost, oneW, allOne, retV, retVA, ↓reduceIte, reduceCtorEq, Nat.reduceAdd, Nat.reduceSub, Nat.reduceMul, Nat.reduceLT, Nat.reduceLeDiff, Nat.reduceEqDiff, Nat.reduceDiv, Nat.reduceMod, Nat.reducePow, Int.reduceAdd, Int.reduceSub, Int.reduceMul, Int.reduceLT, Int.reduceLE, Int.reduceEq, Int.reduceNe, Int.reducePow, Int.reduceToNat, Int.reduceNeg]
          omega
      · obtain rfl : x = H := by omega
        simp -dsimp -implicitDefEqProofs (disch := first | omega | (simp only [List.length_append, List.length_cons, List.length_nil, List.length_take, List.length_drop]; omega)) only [hs2, ↓aPre, aPost, oneW, allOne, retV, retVA, ↓reduceIte, reduceCtorEq, Nat.reduceAdd, Nat.reduceSub, Nat.reduceMul, Nat.reduceLT, Nat.reduceLeDiff, Nat.reduceEqDiff, Nat.reduceDiv, Nat.reduceMod, Nat.reducePow, Int.reduceAdd, Int.reduceSub, Int.reduceMul, Int.reduceLT, Int.reduceLE, Int.reduceEq, Int.reduceNe, Int.reducePow, Int.reduceToNat, Int.reduceNeg]
        refine round_of ⟨y + 1, by omega, ?_⟩ ?_
        · simp -dsimp -implicitDefEqProofs (disch := first | omega | (simp only [List.length_append, List.length_cons, List.length_nil, List.length_take, List.length_drop]; omega)) only [hs2, Nat.add_mul, Nat.one_mul, ↓aPre, aPost, oneW, allOne, retV, retVA, ↓reduceIte, reduceCtorEq, Nat.reduceAdd, Nat.reduceSub, Nat.reduceMul, Nat.reduceLT, Nat.reduceLeDiff, Nat.reduceEqDiff, Nat.reduceDiv, Nat.reduceMod, Nat.reducePow, Int.reduceAdd, Int.reduceSub, Int.reduceMul, Int.reduceLT, Int.reduceLE, Int.reduceEq, Int.reduceNe, Int.reducePow, Int.reduceToNat, Int.reduceNeg]
        · simp -dsimp -implicitDefEqProofs (disch := first | omega | (simp only [List.length_append, List.length_cons, List.length_nil, List.length_take, List.length_drop]; omega)) only [hs2, hs, ↓aPre, aPost, oneW, allOne, retV, retVA, ↓reduceIte, reduceCtorEq, Nat.reduceAdd, Nat.reduceSub, Nat.reduceMul, Nat.reduceLT, Nat.reduceLeDiff, Nat.reduceEqDiff, Nat.reduceDiv, Nat.reduceMod, Nat.reducePow, Int.reduceAdd, Int.reduceSub, Int.reduceMul, Int.reduceLT, Int.reduceLE, Int.reduceEq, Int.reduceNe, Int.reducePow, Int.reduceToNat, Int.reduceNeg]
          omega
    · obtain rfl : y = W := by omega
      have el := tab_len g (y * H)
      simp -dsimp -implicitDefEqProofs (disch := first | omega | (simp only [List.length_append, List.length_cons, List.length_nil, List.length_take, List.length_drop]; omega)) only [hs, el, ↓aPre, aPost, oneW, allOne, retV, retVA, ↓reduceIte, reduceCtorEq, Nat.reduceAdd, Nat.reduceSub, Nat.reduceMul, Nat.reduceLT, Nat.reduceLeDiff, Nat.reduceEqDiff, Nat.reduceDiv, Nat.reduceMod, Nat.reducePow, Int.reduceAdd, Int.reduceSub, Int.reduceMul, Int.reduceLT, Int.reduceLE, Int.reduceEq, Int.reduceNe, Int.reducePow, Int.reduceToNat, Int.reduceNeg]
      refine post_eq ?_
      rw [upL, hAe, hBe, grL, ← hg]
  · have hBe : upW k W H = W := by rw [upW, if_neg h5]
    have hAe : upH k W H = H := by rw [upH, if_neg h5]
    rw [hAe] at hA hAB
    rw [hBe] at hB hAB hg
    rw [hAe, hBe]
    simp -dsimp -implicitDefEqProofs (disch := first | omega | (simp only [List.length_append, List.length_cons, List.length_nil, List.length_take, List.length_drop]; omega)) only [↓aPre, aPost, oneW, allOne, retV, retVA, ↓reduceIte, reduceCtorEq, Nat.reduceAdd, Nat.reduceSub, Nat.reduceMul, Nat.reduceLT, Nat.reduceLeDiff, Nat.reduceEqDiff, Nat.reduceDiv, Nat.reduceMod, Nat.reducePow, Int.reduceAdd, Int.reduceSub, Int.reduceMul, Int.reduceLT, Int.reduceLE, Int.reduceEq, Int.reduceNe, Int.reducePow, Int.reduceToNat, Int.reduceNeg]
    refine loop_nilB 8 2 100 1 [.d (.c (.int .i64 W)), .d (.c (.int .i64 H)), .d (.c (.slice none 0 0))] (fun s => ∃ (y : Nat), y ≤ H ∧ s.tm 1 = .d (.c (.int .i64 k)) ∧ s.tm 2 = .ptr 2 0 ∧ s.hp 2 = some (.box [.d (.c (.int .i64 W)), .d (.c (.int .i64 H)), .d (.lst 1 (li .i64 l))]) ∧ s.tm 4 = .ptr 4 0 ∧ s.hp 4 = some (.box [.d (.c (.int .i64 0)), .d (.c (.int .i64 0)), .d (.c (.slice none 0 0))]) ∧ s.tm 6 = .d (.c (.int .i64 W)) ∧ s.tm 8 = .ptr 8 0 ∧ s.tm 33 = .d (.c (.int .i64 H)) ∧ s.tm 34 = .d (.c (.int .i64 y)) ∧ s.hp 8 = some (.box [.d (.c (.int .i64 W)), .d (.c (.int .i64 H)), .sl 100 1 0 (y * W)]) ∧ s.hp 100 = some (.row 1 (li .i64 (tab g (y * W))))) (fun s => H - (avN (s.tm 34)).toNat) ?_ rfl (by decide) (by decide) ?_ ?_
    · simp -dsimp -implicitDefEqProofs (disch := first | omega | (simp only [List.length_append, List.length_cons, List.length_nil, List.length_take, List.length_drop]; omega)) only [↓aPre, aPost, oneW, allOne, retV, retVA, ↓reduceIte, reduceCtorEq, Nat.reduceAdd, Nat.reduceSub, Nat.reduceMul, Nat.reduceLT, Nat.reduceLeDiff, Nat.reduceEqDiff, Nat.reduceDiv, Nat.reduceMod, Nat.reducePow, Int.reduceAdd, Int.reduceSub, Int.reduceMul, Int.reduceLT, Int.reduceLE, Int.reduceEq, Int.reduceNe, Int.reducePow, Int.reduceToNat, Int.reduceNeg]
    · refine ⟨0, Nat.zero_le _, ?_⟩
      simp -dsimp -implicitDefEqProofs (disch := first | omega | (simp only [List.length_append, List.length_cons, List.length_nil, List.length_take, List.length_drop]; omega)) only [tab, Int.natCast_zero, Nat.zero_mul, List.set_cons_succ, List.set_cons_zero, ↓aPre, aPost, oneW, allOne, retV, retVA, ↓reduceIte, reduceCtorEq, Nat.reduceAdd, Nat.reduceSub, Nat.reduceMul, Nat.reduceLT, Nat.reduceLeDiff, Nat.reduceEqDiff, Nat.reduceDiv, Nat.reduceMod, Nat.reducePow, Int.reduceAdd, Int.reduceSub, Int.reduceMul, Int.reduceLT, Int.reduceLE, Int.reduceEq, Int.reduceNe, Int.reducePow, Int.reduceToNat, Int.reduceNeg]
    rintro s ⟨y, hy, hs⟩
    by_cases hlt : y < H
    · simp -dsimp -implicitDefEqProofs (disch := first | omega | (simp only [List.length_append, List.length_cons, List.length_nil, List.length_take, List.length_drop]; omega)) only [hs, ↓aPre, aPost, oneW, allOne, retV, retVA, ↓reduceIte, reduceCtorEq, Nat.reduceAdd, Nat.reduceSub, Nat.reduceMul, Nat.reduceLT, Nat.reduceLeDiff, Nat.reduceEqDiff, Nat.reduceDiv, Nat.reduceMod, Nat.reducePow, Int.reduceAdd, Int.reduceSub, Int.reduceMul, Int.reduceLT, Int.reduceLE, Int.reduceEq, Int.reduceNe, Int.reducePow, Int.reduceToNat, Int.reduceNeg]
      refine loop_of (fun s => ∃ (x : Nat), x ≤ W ∧ s.tm 1 = .d (.c (.int .i64 k)) ∧ s.tm 2 = .ptr 2 0 ∧ s.hp 2 = some (.box [.d (.c (.int .i64 W)), .d (.c (.int .i64 H)), .d (.lst 1 (li .i64 l))]) ∧ s.tm 4 = .ptr 4 0 ∧ s.hp 4 = some (.box [.d (.c (.int .i64 0)), .d (.c (.int .i64 0)), .d (.c (.slice none 0 0))]) ∧ s.tm 6 = .d (.c (.int .i64 W)) ∧ s.tm 8 = .ptr 8 0 ∧ s.tm 33 = .d (.c (.int .i64 H)) ∧ s.tm 34 = .d (.c (.int .i64 y)) ∧ s.tm 9 = .d (.c (.int .i64 y)) ∧ s.tm 37 = .d (.c (.int .i64 W)) ∧ s.tm 38 = .d (.c (.int .i64 x)) ∧ s.hp 8 = some (.box [.d (.c (.int .i64 W)), .d (.c (.int .i64 H)), .sl 100 1 0 (y * W + x)]) ∧ s.hp 100 = some (.row 1 (li .i64 (tab g (y * W + x))))) (fun s => W - (avN (s.tm 38)).toNat) ?_ ?_
      · refine ⟨0, Nat.zero_le _, ?_⟩
        simp -dsimp -implicitDefEqProofs (disch := first | omega | (simp only [List.length_append, List.length_cons, List.length_nil, List.length_take, List.length_drop]; omega)) only [hs, Int.natCast_zero, ↓aPre, aPost, oneW, allOne, retV, retVA, ↓reduceIte, reduceCtorEq, Nat.reduceAdd, Nat.reduceSub, Nat.reduceMul, Nat.reduceLT, Nat.reduceLeDiff, Nat.reduceEqDiff, Nat.reduceDiv, Nat.reduceMod, Nat.reducePow, Int.reduceAdd, Int.reduceSub, Int.reduceMul, Int.reduceLT, Int.reduceLE, Int.reduceEq, Int.reduceNe, Int.reducePow, Int.reduceToNat, Int.reduceNeg]
      rintro s2 ⟨x, hx, hs2⟩
      have el := tab_len g (y * W + x)
      by_cases hxl : x < W
      · obtain ⟨a, b, ha, hb, haW, hbH⟩ := tXY (W := W) (H := H) (k := k) hk (by omega : x < upW k W H) (by omega : y < upH k W H)
        have hpl := place_lt haW hbH
        have hpl2 := place_lt hxl hlt
        have hW0 : H * W ≤ 4194304 := by rw [Nat.mul_comm]; exact hWH
        have hll : l.length = H * W := by rw [hl, Nat.mul_comm]
        obtain ⟨p, hp⟩ : ∃ p : Nat, p = b * W := ⟨_, rfl⟩
        have hp2 : (b : Int) * (W : Int) = p := by rw [hp, Int.natCast_mul]
        rw [← hp] at hpl
        have hgv : g (y * W + x) = l.getD (p + a) 0 := by
          rw [hg, grF_at _ hxl, upG, ha, hb, hp2]
          congr 1
        have e1 : ((p : Int) + a).toNat = p + a := by omega
        have et : tab g (y * W + (x + 1)) = tab g (y * W + x) ++ [g (y * W + x)] := rfl
        simp -dsimp -implicitDefEqProofs (disch := first | omega | (simp only [List.length_append, List.length_cons, List.length_nil, List.length_take, List.length_drop]; omega)) only [hs2, ↓aPre, aPost, oneW, allOne, retV, retVA, ↓reduceIte, reduceCtorEq, Nat.reduceAdd, Nat.reduceSub, Nat.reduceMul, Nat.reduceLT, Nat.reduceLeDiff, Nat.reduceEqDiff, Nat.reduceDiv, Nat.reduceMod, Nat.reducePow, Int.reduceAdd, Int.reduceSub, Int.reduceMul, Int.reduceLT, Int.reduceLE, Int.reduceEq, Int.reduceNe, Int.reducePow, Int.reduceToNat, Int.reduceNeg]
        have ht := turned_giv k x y W H hk (by omega) (by omega) (by omega) (by omega)
        refine call_giv ht ?_
        simp -dsimp -implicitDefEqProofs (disch := first | omega | (simp only [List.length_append, List.length_cons, List.length_nil, List.length_take, List.length_drop]; omega)) only [hs2, ha, hb, hp2, e1, el, ↓aPre, aPost, oneW, allOne, retV, retVA, ↓reduceIte, reduceCtorEq, Nat.reduceAdd, Nat.reduceSub, Nat.reduceMul, Nat.reduceLT, Nat.reduceLeDiff, Nat.reduceEqDiff, Nat.reduceDiv, Nat.reduceMod, Nat.reducePow, Int.reduceAdd, Int.reduceSub, Int.reduceMul, Int.reduceLT, Int.reduceLE, Int.reduceEq, Int.reduceNe, Int.reducePow, Int.reduceToNat, Int.reduceNeg]
        refine round_of ⟨x + 1, by omega, ?_⟩ ?_
        · simp -dsimp -implicitDefEqProofs (disch := first | omega | (simp only [List.length_append, List.length_cons, List.length_nil, List.length_take, List.length_drop]; omega)) only [hs2, ha, hb, hp2, e1, el, ← hgv, et, Nat.add_assoc, ↓aPre, aPost, oneW, allOne, retV, retVA, ↓reduceIte, reduceCtorEq, Nat.reduceAdd, Nat.reduceSub, Nat.reduceMul, Nat.reduceLT, Nat.reduceLeDiff, Nat.reduceEqDiff, Nat.reduceDiv, Nat.reduceMod, Nat.reducePow, Int.reduceAdd, Int.reduceSub, Int.reduceMul, Int.reduceLT, Int.reduceLE, Int.reduceEq, Int.reduceNe, Int.reducePow, Int.reduceToNat, Int.reduceNeg]
        · simp -dsimp -implicitDefEqProofs (disch := first | omega | (simp only [List.length_append, List.length_cons, List.length_nil, List.length_take, List.length_drop]; omega)) only [hs2, ↓aPre, aPost, oneW, allOne, retV, retVA, ↓reduceIte, reduceCtorEq, Nat.reduceAdd, Nat.reduceSub, Nat.reduceMul, Nat.reduceLT, Nat.reduceLeDiff, Nat.reduceEqDiff, Nat.reduceDiv, Nat.reduceMod, Nat.reducePow, Int.reduceAdd, Int.reduceSub, Int.reduceMul, Int.reduceLT, Int.reduceLE, Int.reduceEq, Int.reduceNe, Int.reducePow, Int.reduceToNat, Int.reduceNeg]
          omega
      · obtain rfl : x = W := by omega
        simp -dsimp -implicitDefEqProofs (disch := first | omega | (simp only [List.length_append, List.length_cons, List.length_nil, List.length_take, List.length_drop]; omega)) only [hs2, ↓aPre, aPost, oneW, allOne, retV, retVA, ↓reduceIte, reduceCtorEq, Nat.reduceAdd, Nat.reduceSub, Nat.reduceMul, Nat.reduceLT, Nat.reduceLeDiff, Nat.reduceEqDiff, Nat.reduceDiv, Nat.reduceMod, Nat.reducePow, Int.reduceAdd, Int.reduceSub, Int.reduceMul, Int.reduceLT, Int.reduceLE, Int.reduceEq, Int.reduceNe, Int.reducePow, Int.reduceToNat, Int.reduceNeg]
        refine round_of ⟨y + 1, by omega, ?_⟩ ?_
        · simp -dsimp -implicitDefEqProofs (disch := first | omega | (simp only [List.length_append, List.length_cons, List.length_nil, List.length_take, List.length_drop]; omega)) only [hs2, Nat.add_mul, Nat.one_mul, ↓aPre, aPost, oneW, allOne, retV, retVA, ↓reduceIte, reduceCtorEq, Nat.reduceAdd, Nat.reduceSub, Nat.reduceMul, Nat.reduceLT, Nat.reduceLeDiff, Nat.reduceEqDiff, Nat.reduceDiv, Nat.reduceMod, Nat.reducePow, Int.reduceAdd, Int.reduceSub, Int.reduceMul, Int.reduceLT, Int.reduceLE, Int.reduceEq, Int.reduceNe, Int.reducePow, Int.reduceToNat, Int.reduceNeg]
        · simp -dsimp -implicitDefEqProofs (disch := first | omega | (simp only [List.length_append, List.length_cons, List.length_nil, List.length_take, List.length_drop]; omega)) only [hs2, hs, ↓aPre, aPost, oneW, allOne, retV, retVA, ↓reduceIte, reduceCtorEq, Nat.reduceAdd, Nat.reduceSub, Nat.reduceMul, Nat.reduceLT, Nat.reduceLeDiff, Nat.reduceEqDiff, Nat.reduceDiv, Nat.reduceMod, Nat.reducePow, Int.reduceAdd, Int.reduceSub, Int.reduceMul, Int.reduceLT, Int.reduceLE, Int.reduceEq, Int.reduceNe, Int.reducePow, Int.reduceToNat, Int.reduceNeg]
          omega
    · obtain rfl : y = H := by omega
      have el := tab_len g (y * W)
      simp -dsimp -implicitDefEqProofs (disch := first | omega | (simp only [List.length_append, List.length_cons, List.length_nil, List.length_take, List.length_drop]; omega)) only [hs, el, ↓aPre, aPost, oneW, allOne, retV, retVA, ↓reduceIte, reduceCtorEq, Nat.reduceAdd, Nat.reduceSub, Nat.reduceMul, Nat.reduceLT, Nat.reduceLeDiff, Nat.reduceEqDiff, Nat.reduceDiv, Nat.reduceMod, Nat.reducePow, Int.reduceAdd, Int.reduceSub, Int.reduceMul, Int.reduceLT, Int.reduceLE, Int.reduceEq, Int.reduceNe, Int.reducePow, Int.reduceToNat, Int.reduceNeg]
      refine post_eq ?_
      rw [upL, hAe, hBe, grL, ← hg]
theorem up_f (k : Int) (W H : Int) (l : List Int) (hl : l.length ≤ 140737488355328) (h : ¬ (wayP k ∧ rightP W H l)) : Giv Try.prog 9 [gD W H l, .c (.int .i64 k)] (retV [gD 0 0 [], .c (.int .i64 1)]) := by
  refine Giv.of mixed c9 (Nat.le_of_ble_eq_true rfl) ?_
  simp -dsimp -implicitDefEqProofs (disch := first | omega | (simp only [List.length_append, List.length_cons, List.length_nil, List.length_take, List.length_drop]; omega)) only [a9, gD, ↓aPre, aPost, oneW, allOne, retV, retVA, ↓reduceIte, reduceCtorEq, Nat.reduceAdd, Nat.reduceSub, Nat.reduceMul, Nat.reduceLT, Nat.reduceLeDiff, Nat.reduceEqDiff, Nat.reduceDiv, Nat.reduceMod, Nat.reducePow, Int.reduceAdd, Int.reduceSub, Int.reduceMul, Int.reduceLT, Int.reduceLE, Int.reduceEq, Int.reduceNe, Int.reducePow, Int.reduceToNat, Int.reduceNeg]
  refine call_giv (way_giv k) ?_
  by_cases hk : wayP k
  · simp -dsimp -implicitDefEqProofs (disch := first | omega | (simp only [List.length_append, List.length_cons, List.length_nil, List.length_take, List.length_drop]; omega)) only [hk, ↓aPre, aPost, oneW, allOne, retV, retVA, ↓reduceIte, reduceCtorEq, Nat.reduceAdd, Nat.reduceSub, Nat.reduceMul, Nat.reduceLT, Nat.reduceLeDiff, Nat.reduceEqDiff, Nat.reduceDiv, Nat.reduceMod, Nat.reducePow, Int.reduceAdd, Int.reduceSub, Int.reduceMul, Int.reduceLT, Int.reduceLE, Int.reduceEq, Int.reduceNe, Int.reducePow, Int.reduceToNat, Int.reduceNeg]
    refine call_giv (right_giv W H l hl) ?_
    have hr : ¬ rightP W H l := fun hr => h ⟨hk, hr⟩
    simp -dsimp -implicitDefEqProofs (disch := first | omega | (simp only [List.length_append, List.length_cons, List.length_nil, List.length_take, List.length_drop]; omega)) only [hr, hk, ↓aPre, aPost, oneW, allOne, retV, retVA, ↓reduceIte, reduceCtorEq, Nat.reduceAdd, Nat.reduceSub, Nat.reduceMul, Nat.reduceLT, Nat.reduceLeDiff, Nat.reduceEqDiff, Nat.reduceDiv, Nat.reduceMod, Nat.reducePow, Int.reduceAdd, Int.reduceSub, Int.reduceMul, Int.reduceLT, Int.reduceLE, Int.reduceEq, Int.reduceNe, Int.reducePow, Int.reduceToNat, Int.reduceNeg]
    exact post_le (by repeat (first | exact leD.nil | exact leE.refl _ | exact leE.nil _ | refine leD.cons ?_ ?_ | refine leE.agg ?_))
  · simp -dsimp -implicitDefEqProofs (disch := first | omega | (simp only [List.length_append, List.length_cons, List.length_nil, List.length_take, List.length_drop]; omega)) only [hk, ↓aPre, aPost, oneW, allOne, retV, retVA, ↓reduceIte, reduceCtorEq, Nat.reduceAdd, Nat.reduceSub, Nat.reduceMul, Nat.reduceLT, Nat.reduceLeDiff, Nat.reduceEqDiff, Nat.reduceDiv, Nat.reduceMod, Nat.reducePow, Int.reduceAdd, Int.reduceSub, Int.reduceMul, Int.reduceLT, Int.reduceLE, Int.reduceEq, Int.reduceNe, Int.reducePow, Int.reduceToNat, Int.reduceNeg]
    exact post_le (by repeat (first | exact leD.nil | exact leE.refl _ | exact leE.nil _ | refine leD.cons ?_ ?_ | refine leE.agg ?_))
def mirG (W H : Nat) (l : List Int) (i j : Nat) : Int := l.getD (i * W + (W - 1 - j)) 0
theorem mir_giv (W H : Nat) (l : List Int) (hW : W ≤ 4194304) (hH : H ≤ 4194304) (hWH : W * H ≤ 4194304) (hl : l.length = W * H) : Giv Try.prog 23 [gD W H l] (retV [gD W H (grL (mirG W H l) H W)]) := by
  have hHW : H * W ≤ 4194304 := by rw [Nat.mul_comm]; exact hWH
  have hll : l.length = H * W := by rw [hl, Nat.mul_comm]
  refine Giv.of mixed c23 (Nat.le_of_ble_eq_true rfl) ?_
  obtain ⟨g, hg⟩ : ∃ g, g = grF (mirG W H l) W := ⟨_, rfl⟩
  simp -dsimp -implicitDefEqProofs (disch := first | omega | (simp only [List.length_append, List.length_cons, List.length_nil, List.length_take, List.length_drop]; omega)) only [a23, gD, ↓aPre, aPost, oneW, allOne, retV, retVA, ↓reduceIte, reduceCtorEq, Nat.reduceAdd, Nat.reduceSub, Nat.reduceMul, Nat.reduceLT, Nat.reduceLeDiff, Nat.reduceEqDiff, Nat.reduceDiv, Nat.reduceMod, Nat.reducePow, Int.reduceAdd, Int.reduceSub, Int.reduceMul, Int.reduceLT, Int.reduceLE, Int.reduceEq, Int.reduceNe, Int.reducePow, Int.reduceToNat, Int.reduceNeg]
  refine loop_nilB 3 2 100 1 [.d (.c (.int .i64 W)), .d (.c (.int .i64 H)), .d (.c (.slice none 0 0))] (fun s => ∃ (i : Nat), i ≤ H ∧ s.tm 1 = .ptr 1 0 ∧ s.hp 1 = some (.box [.d (.c (.int .i64 W)), .d (.c (.int .i64 H)), .d (.lst 1 (li .i64 l))]) ∧ s.tm 2 = .ptr 2 0 ∧ s.hp 2 = some (.box [.d (.c (.int .i64 0)), .d (.c (.int .i64 0)), .d (.c (.slice none 0 0))]) ∧ s.tm 3 = .ptr 3 0 ∧ s.tm 4 = .d (.c (.int .i64 (i : Int))) ∧ s.hp 3 = some (.box [.d (.c (.int .i64 W)), .d (.c (.int .i64 H)), .sl 100 1 0 (i * W)]) ∧ s.hp 100 = some (.row 1 (li .i64 (tab g (i * W))))) (fun s => H - (avN (s.tm 4)).toNat) ?_ rfl (by decide) (by decide) ?_ ?_
  · simp -dsimp -implicitDefEqProofs (disch := first | omega | (simp only [List.length_append, List.length_cons, List.length_nil, List.length_take, List.length_drop]; omega)) only [↓aPre, aPost, oneW, allOne, retV, retVA, ↓reduceIte, reduceCtorEq, Nat.reduceAdd, Nat.reduceSub, Nat.reduceMul, Nat.reduceLT, Nat.reduceLeDiff, Nat.reduceEqDiff, Nat.reduceDiv, Nat.reduceMod, Nat.reducePow, Int.reduceAdd, Int.reduceSub, Int.reduceMul, Int.reduceLT, Int.reduceLE, Int.reduceEq, Int.reduceNe, Int.reducePow, Int.reduceToNat, Int.reduceNeg]
  · refine ⟨0, Nat.zero_le _, ?_⟩
    simp -dsimp -implicitDefEqProofs (disch := first | omega | (simp only [List.length_append, List.length_cons, List.length_nil, List.length_take, List.length_drop]; omega)) only [tab, Int.natCast_zero, Nat.zero_mul, List.set_cons_succ, List.set_cons_zero, ↓aPre, aPost, oneW, allOne, retV, retVA, ↓reduceIte, reduceCtorEq, Nat.reduceAdd, Nat.reduceSub, Nat.reduceMul, Nat.reduceLT, Nat.reduceLeDiff, Nat.reduceEqDiff, Nat.reduceDiv, Nat.reduceMod, Nat.reducePow, Int.reduceAdd, Int.reduceSub, Int.reduceMul, Int.reduceLT, Int.reduceLE, Int.reduceEq, Int.reduceNe, Int.reducePow, Int.reduceToNat, Int.reduceNeg]
  rintro s ⟨i, hi, hs⟩
  by_cases hlt : i < H
  · simp -dsimp -implicitDefEqProofs (disch := first | omega | (simp only [List.length_append, List.length_cons, List.length_nil, List.length_take, List.length_drop]; omega)) only [hs, ↓aPre, aPost, oneW, allOne, retV, retVA, ↓reduceIte, reduceCtorEq, Nat.reduceAdd, Nat.reduceSub, Nat.reduceMul, Nat.reduceLT, Nat.reduceLeDiff, Nat.reduceEqDiff, Nat.reduceDiv, Nat.reduceMod, Nat.reducePow, Int.reduceAdd, Int.reduceSub, Int.reduceMul, Int.reduceLT, Int.reduceLE, Int.reduceEq, Int.reduceNe, Int.reducePow, Int.reduceToNat, Int.reduceNeg]
    refine loop_of (fun s => ∃ (j : Nat), j ≤ W ∧ s.tm 1 = .ptr 1 0 ∧ s.hp 1 = some (.box [.d (.c (.int .i64 W)), .d (.c (.int .i64 H)), .d (.lst 1 (li .i64 l))]) ∧ s.tm 2 = .ptr 2 0 ∧ s.hp 2 = some (.box [.d (.c (.int .i64 0)), .d (.c (.int .i64 0)), .d (.c (.slice none 0 0))]) ∧ s.tm 3 = .ptr 3 0 ∧ s.tm 4 = .d (.c (.int .i64 (i : Int))) ∧ s.tm 5 = .d (.c (.int .i64 ((W : Int) - 1 - j))) ∧ s.hp 3 = some (.box [.d (.c (.int .i64 W)), .d (.c (.int .i64 H)), .sl 100 1 0 (i * W + j)]) ∧ s.hp 100 = some (.row 1 (li .i64 (tab g (i * W + j))))) (fun s => (avN (s.tm 5) + 1).toNat) ?_ ?_
    · refine ⟨0, Nat.zero_le _, ?_⟩
      simp -dsimp -implicitDefEqProofs (disch := first | omega | (simp only [List.length_append, List.length_cons, List.length_nil, List.length_take, List.length_drop]; omega)) only [hs, Int.natCast_zero, ↓aPre, aPost, oneW, allOne, retV, retVA, ↓reduceIte, reduceCtorEq, Nat.reduceAdd, Nat.reduceSub, Nat.reduceMul, Nat.reduceLT, Nat.reduceLeDiff, Nat.reduceEqDiff, Nat.reduceDiv, Nat.reduceMod, Nat.reducePow, Int.reduceAdd, Int.reduceSub, Int.reduceMul, Int.reduceLT, Int.reduceLE, Int.reduceEq, Int.reduceNe, Int.reducePow, Int.reduceToNat, Int.reduceNeg]
    rintro s2 ⟨j, hj, hs2⟩
    have el := tab_len g (i * W + j)
    have hpl2 := place_lt (A := H) (B := W) (i := i) (j := j)
    by_cases hjl : j < W
    · have hpl2 := hpl2 hjl hlt
      have hpl := place_lt (A := H) (B := W) (i := i) (j := W - 1 - j) (by omega) hlt
      obtain ⟨p, hp⟩ : ∃ p : Nat, p = i * W := ⟨_, rfl⟩
      have hq : (i : Int) * (W : Int) = p := by rw [hp, Int.natCast_mul]
      rw [← hp] at hpl
      have hgv : g (i * W + j) = l.getD (p + (W - 1 - j)) 0 := by rw [hg, grF_at _ hjl, mirG, hp]
      have hq1 : ((p : Int) + ((W : Int) - 1 - j)).toNat = p + (W - 1 - j) := by omega
      have et : tab g (i * W + (j + 1)) = tab g (i * W + j) ++ [g (i * W + j)] := rfl
      simp -dsimp -implicitDefEqProofs (disch := first | omega | (simp only [List.length_append, List.length_cons, List.length_nil, List.length_take, List.length_drop]; omega)) only [hs2, hq, hq1, el, ↓aPre, aPost, oneW, allOne, retV, retVA, ↓reduceIte, reduceCtorEq, Nat.reduceAdd, Nat.reduceSub, Nat.reduceMul, Nat.reduceLT, Nat.reduceLeDiff, Nat.reduceEqDiff, Nat.reduceDiv, Nat.reduceMod, Nat.reducePow, Int.reduceAdd, Int.reduceSub, Int.reduceMul, Int.reduceLT, Int.reduceLE, Int.reduceEq, Int.reduceNe, Int.reducePow, Int.reduceToNat, Int.reduceNeg]
      refine round_of ⟨j + 1, by omega, ?_⟩ ?_
      · simp -dsimp -implicitDefEqProofs (disch := first | omega | (simp only [List.length_append, List.length_cons, List.length_nil, List.length_take, List.length_drop]; omega)) only [hs2, hq, hq1, el, ← hgv, et, Nat.add_assoc, ↓aPre, aPost, oneW, allOne, retV, retVA, ↓reduceIte, reduceCtorEq, Nat.reduceAdd, Nat.reduceSub, Nat.reduceMul, Nat.reduceLT, Nat.reduceLeDiff, Nat.reduceEqDiff, Nat.reduceDiv, Nat.reduceMod, Nat.reducePow, Int.reduceAdd, Int.reduceSub, Int.reduceMul, Int.reduceLT, Int.reduceLE, Int.reduceEq, Int.reduceNe, Int.reducePow, Int.reduceToNat, Int.reduceNeg]
        first | done | (congr 3; omega)
      · simp -dsimp -implicitDefEqProofs (disch := first | omega | (simp only [List.length_append, List.length_cons, List.length_nil, List.length_take, List.length_drop]; omega)) only [hs2, ↓aPre, aPost, oneW, allOne, retV, retVA, ↓reduceIte, reduceCtorEq, Nat.reduceAdd, Nat.reduceSub, Nat.reduceMul, Nat.reduceLT, Nat.reduceLeDiff, Nat.reduceEqDiff, Nat.reduceDiv, Nat.reduceMod, Nat.reducePow, Int.reduceAdd, Int.reduceSub, Int.reduceMul, Int.reduceLT, Int.reduceLE, Int.reduceEq, Int.reduceNe, Int.reducePow, Int.reduceToNat, Int.reduceNeg]
        omega
    · obtain rfl : j = W := by omega
      simp -dsimp -implicitDefEqProofs (disch := first | omega | (simp only [List.length_append, List.length_cons, List.length_nil, List.length_take, List.length_drop]; omega)) only [hs2, ↓aPre, aPost, oneW, allOne, retV, retVA, ↓reduceIte, reduceCtorEq, Nat.reduceAdd, Nat.reduceSub, Nat.reduceMul, Nat.reduceLT, Nat.reduceLeDiff, Nat.reduceEqDiff, Nat.reduceDiv, Nat.reduceMod, Nat.reducePow, Int.reduceAdd, Int.reduceSub, Int.reduceMul, Int.reduceLT, Int.reduceLE, Int.reduceEq, Int.reduceNe, Int.reducePow, Int.reduceToNat, Int.reduceNeg]
      refine round_of ⟨i + 1, by omega, ?_⟩ ?_
      · simp -dsimp -implicitDefEqProofs (disch := first | omega | (simp only [List.length_append, List.length_cons, List.length_nil, List.length_take, List.length_drop]; omega)) only [hs2, Nat.add_mul, Nat.one_mul, ↓aPre, aPost, oneW, allOne, retV, retVA, ↓reduceIte, reduceCtorEq, Nat.reduceAdd, Nat.reduceSub, Nat.reduceMul, Nat.reduceLT, Nat.reduceLeDiff, Nat.reduceEqDiff, Nat.reduceDiv, Nat.reduceMod, Nat.reducePow, Int.reduceAdd, Int.reduceSub, Int.reduceMul, Int.reduceLT, Int.reduceLE, Int.reduceEq, Int.reduceNe, Int.reducePow, Int.reduceToNat, Int.reduceNeg]
      · simp -dsimp -implicitDefEqProofs (disch := first | omega | (simp only [List.length_append, List.length_cons, List.length_nil, List.length_take, List.length_drop]; omega)) only [hs2, hs, ↓aPre, aPost, oneW, allOne, retV, retVA, ↓reduceIte, reduceCtorEq, Nat.reduceAdd, Nat.reduceSub, Nat.reduceMul, Nat.reduceLT, Nat.reduceLeDiff, Nat.reduceEqDiff, Nat.reduceDiv, Nat.reduceMod, Nat.reducePow, Int.reduceAdd, Int.reduceSub, Int.reduceMul, Int.reduceLT, Int.reduceLE, Int.reduceEq, Int.reduceNe, Int.reducePow, Int.reduceToNat, Int.reduceNeg]
        omega
  · obtain rfl : i = H := by omega
    have el := tab_len g (i * W)
    simp -dsimp -implicitDefEqProofs (disch := first | omega | (simp only [List.length_append, List.length_cons, List.length_nil, List.length_take, List.length_drop]; omega)) only [hs, el, ↓aPre, aPost, oneW, allOne, retV, retVA, ↓reduceIte, reduceCtorEq, Nat.reduceAdd, Nat.reduceSub, Nat.reduceMul, Nat.reduceLT, Nat.reduceLeDiff, Nat.reduceEqDiff, Nat.reduceDiv, Nat.reduceMod, Nat.reducePow, Int.reduceAdd, Int.reduceSub, Int.reduceMul, Int.reduceLT, Int.reduceLE, Int.reduceEq, Int.reduceNe, Int.reducePow, Int.reduceToNat, Int.reduceNeg]
    refine post_eq ?_
    rw [grL, ← hg]
def flpG (W H : Nat) (l : List Int) (i j : Nat) : Int := l.getD ((H - 1 - i) * W + j) 0
theorem flp_giv (W H : Nat) (l : List Int) (hW : W ≤ 4194304) (hH : H ≤ 4194304) (hWH : W * H ≤ 4194304) (hl : l.length = W * H) : Giv Try.prog 24 [gD W H l] (retV [gD W H (grL (flpG W H l) H W)]) := by
  have hHW : H * W ≤ 4194304 := by rw [Nat.mul_comm]; exact hWH
  have hll : l.length = H * W := by rw [hl, Nat.mul_comm]
  refine Giv.of mixed c24 (Nat.le_of_ble_eq_true rfl) ?_
  obtain ⟨g, hg⟩ : ∃ g, g = grF (flpG W H l) W := ⟨_, rfl⟩
  simp -dsimp -implicitDefEqProofs (disch := first | omega | (simp only [List.length_append, List.length_cons, List.length_nil, List.length_take, List.length_drop]; omega)) only [a24, gD, ↓aPre, aPost, oneW, allOne, retV, retVA, ↓reduceIte, reduceCtorEq, Nat.reduceAdd, Nat.reduceSub, Nat.reduceMul, Nat.reduceLT, Nat.reduceLeDiff, Nat.reduceEqDiff, Nat.reduceDiv, Nat.reduceMod, Nat.reducePow, Int.reduceAdd, Int.reduceSub, Int.reduceMul, Int.reduceLT, Int.reduceLE, Int.reduceEq, Int.reduceNe, Int.reducePow, Int.reduceToNat, Int.reduceNeg]
  refine loop_nilB 3 2 100 1 [.d (.c (.int .i64 W)), .d (.c (.int .i64 H)), .d (.c (.slice none 0 0))] (fun s => ∃ (i : Nat), i ≤ H ∧ s.tm 1 = .ptr 1 0 ∧ s.hp 1 = some (.box [.d (.c (.int .i64 W)), .d (.c (.int .i64 H)), .d (.lst 1 (li .i64 l))]) ∧ s.tm 2 = .ptr 2 0 ∧ s.hp 2 = some (.box [.d (.c (.int .i64 0)), .d (.c (.int .i64 0)), .d (.c (.slice none 0 0))]) ∧ s.tm 3 = .ptr 3 0 ∧ s.tm 4 = .d (.c (.int .i64 ((H : Int) - 1 - i))) ∧ s.hp 3 = some (.box [.d (.c (.int .i64 W)), .d (.c (.int .i64 H)), .sl 100 1 0 (i * W)]) ∧ s.hp 100 = some (.row 1 (li .i64 (tab g (i * W))))) (fun s => (avN (s.tm 4) + 1).toNat) ?_ rfl (by decide) (by decide) ?_ ?_
  · simp -dsimp -implicitDefEqProofs (disch := first | omega | (simp only [List.length_append, List.length_cons, List.length_nil, List.length_take, List.length_drop]; omega)) only [↓aPre, aPost, oneW, allOne, retV, retVA, ↓reduceIte, reduceCtorEq, Nat.reduceAdd, Nat.reduceSub, Nat.reduceMul, Nat.reduceLT, Nat.reduceLeDiff, Nat.reduceEqDiff, Nat.reduceDiv, Nat.reduceMod, Nat.reducePow, Int.reduceAdd, Int.reduceSub, Int.reduceMul, Int.reduceLT, Int.reduceLE, Int.reduceEq, Int.reduceNe, Int.reducePow, Int.reduceToNat, Int.reduceNeg]
  · refine ⟨0, Nat.zero_le _, ?_⟩
    simp -dsimp -implicitDefEqProofs (disch := first | omega | (simp only [List.length_append, List.length_cons, List.length_nil, List.length_take, List.length_drop]; omega)) only [tab, Int.natCast_zero, Nat.zero_mul, List.set_cons_succ, List.set_cons_zero, ↓aPre, aPost, oneW, allOne, retV, retVA, ↓reduceIte, reduceCtorEq, Nat.reduceAdd, Nat.reduceSub, Nat.reduceMul, Nat.reduceLT, Nat.reduceLeDiff, Nat.reduceEqDiff, Nat.reduceDiv, Nat.reduceMod, Nat.reducePow, Int.reduceAdd, Int.reduceSub, Int.reduceMul, Int.reduceLT, Int.reduceLE, Int.reduceEq, Int.reduceNe, Int.reducePow, Int.reduceToNat, Int.reduceNeg]
  rintro s ⟨i, hi, hs⟩
  by_cases hlt : i < H
  · simp -dsimp -implicitDefEqProofs (disch := first | omega | (simp only [List.length_append, List.length_cons, List.length_nil, List.length_take, List.length_drop]; omega)) only [hs, ↓aPre, aPost, oneW, allOne, retV, retVA, ↓reduceIte, reduceCtorEq, Nat.reduceAdd, Nat.reduceSub, Nat.reduceMul, Nat.reduceLT, Nat.reduceLeDiff, Nat.reduceEqDiff, Nat.reduceDiv, Nat.reduceMod, Nat.reducePow, Int.reduceAdd, Int.reduceSub, Int.reduceMul, Int.reduceLT, Int.reduceLE, Int.reduceEq, Int.reduceNe, Int.reducePow, Int.reduceToNat, Int.reduceNeg]
    refine loop_of (fun s => ∃ (j : Nat), j ≤ W ∧ s.tm 1 = .ptr 1 0 ∧ s.hp 1 = some (.box [.d (.c (.int .i64 W)), .d (.c (.int .i64 H)), .d (.lst 1 (li .i64 l))]) ∧ s.tm 2 = .ptr 2 0 ∧ s.hp 2 = some (.box [.d (.c (.int .i64 0)), .d (.c (.int .i64 0)), .d (.c (.slice none 0 0))]) ∧ s.tm 3 = .ptr 3 0 ∧ s.tm 4 = .d (.c (.int .i64 ((H : Int) - 1 - i))) ∧ s.tm 5 = .d (.c (.int .i64 (j : Int))) ∧ s.hp 3 = some (.box [.d (.c (.int .i64 W)), .d (.c (.int .i64 H)), .sl 100 1 0 (i * W + j)]) ∧ s.hp 100 = some (.row 1 (li .i64 (tab g (i * W + j))))) (fun s => W - (avN (s.tm 5)).toNat) ?_ ?_
    · refine ⟨0, Nat.zero_le _, ?_⟩
      simp -dsimp -implicitDefEqProofs (disch := first | omega | (simp only [List.length_append, List.length_cons, List.length_nil, List.length_take, List.length_drop]; omega)) only [hs, Int.natCast_zero, ↓aPre, aPost, oneW, allOne, retV, retVA, ↓reduceIte, reduceCtorEq, Nat.reduceAdd, Nat.reduceSub, Nat.reduceMul, Nat.reduceLT, Nat.reduceLeDiff, Nat.reduceEqDiff, Nat.reduceDiv, Nat.reduceMod, Nat.reducePow, Int.reduceAdd, Int.reduceSub, Int.reduceMul, Int.reduceLT, Int.reduceLE, Int.reduceEq, Int.reduceNe, Int.reducePow, Int.reduceToNat, Int.reduceNeg]
    rintro s2 ⟨j, hj, hs2⟩
    have el := tab_len g (i * W + j)
    have hpl2 := place_lt (A := H) (B := W) (i := i) (j := j)
    by_cases hjl : j < W
    · have hpl2 := hpl2 hjl hlt
      have hpl := place_lt (A := H) (B := W) (i := H - 1 - i) (j := j) hjl (by omega)
      obtain ⟨p, hp⟩ : ∃ p : Nat, p = (H - 1 - i) * W := ⟨_, rfl⟩
      have hq : ((H : Int) - 1 - (i : Int)) * (W : Int) = p := by rw [hp, Int.natCast_mul]; congr 1; omega
      rw [← hp] at hpl
      have hgv : g (i * W + j) = l.getD (p + j) 0 := by rw [hg, grF_at _ hjl, flpG, hp]
      have hq1 : ((p : Int) + (j : Int)).toNat = p + j := by omega
      have et : tab g (i * W + (j + 1)) = tab g (i * W + j) ++ [g (i * W + j)] := rfl
      simp -dsimp -implicitDefEqProofs (disch := first | omega | (simp only [List.length_append, List.length_cons, List.length_nil, List.length_take, List.length_drop]; omega)) only [hs2, hq, hq1, el, ↓aPre, aPost, oneW, allOne, retV, retVA, ↓reduceIte, reduceCtorEq, Nat.reduceAdd, Nat.reduceSub, Nat.reduceMul, Nat.reduceLT, Nat.reduceLeDiff, Nat.reduceEqDiff, Nat.reduceDiv, Nat.reduceMod, Nat.reducePow, Int.reduceAdd, Int.reduceSub, Int.reduceMul, Int.reduceLT, Int.reduceLE, Int.reduceEq, Int.reduceNe, Int.reducePow, Int.reduceToNat, Int.reduceNeg]
      refine round_of ⟨j + 1, by omega, ?_⟩ ?_
      · simp -dsimp -implicitDefEqProofs (disch := first | omega | (simp only [List.length_append, List.length_cons, List.length_nil, List.length_take, List.length_drop]; omega)) only [hs2, hq, hq1, el, ← hgv, et, Nat.add_assoc, ↓aPre, aPost, oneW, allOne, retV, retVA, ↓reduceIte, reduceCtorEq, Nat.reduceAdd, Nat.reduceSub, Nat.reduceMul, Nat.reduceLT, Nat.reduceLeDiff, Nat.reduceEqDiff, Nat.reduceDiv, Nat.reduceMod, Nat.reducePow, Int.reduceAdd, Int.reduceSub, Int.reduceMul, Int.reduceLT, Int.reduceLE, Int.reduceEq, Int.reduceNe, Int.reducePow, Int.reduceToNat, Int.reduceNeg]
      · simp -dsimp -implicitDefEqProofs (disch := first | omega | (simp only [List.length_append, List.length_cons, List.length_nil, List.length_take, List.length_drop]; omega)) only [hs2, ↓aPre, aPost, oneW, allOne, retV, retVA, ↓reduceIte, reduceCtorEq, Nat.reduceAdd, Nat.reduceSub, Nat.reduceMul, Nat.reduceLT, Nat.reduceLeDiff, Nat.reduceEqDiff, Nat.reduceDiv, Nat.reduceMod, Nat.reducePow, Int.reduceAdd, Int.reduceSub, Int.reduceMul, Int.reduceLT, Int.reduceLE, Int.reduceEq, Int.reduceNe, Int.reducePow, Int.reduceToNat, Int.reduceNeg]
        omega
    · obtain rfl : j = W := by omega
      simp -dsimp -implicitDefEqProofs (disch := first | omega | (simp only [List.length_append, List.length_cons, List.length_nil, List.length_take, List.length_drop]; omega)) only [hs2, ↓aPre, aPost, oneW, allOne, retV, retVA, ↓reduceIte, reduceCtorEq, Nat.reduceAdd, Nat.reduceSub, Nat.reduceMul, Nat.reduceLT, Nat.reduceLeDiff, Nat.reduceEqDiff, Nat.reduceDiv, Nat.reduceMod, Nat.reducePow, Int.reduceAdd, Int.reduceSub, Int.reduceMul, Int.reduceLT, Int.reduceLE, Int.reduceEq, Int.reduceNe, Int.reducePow, Int.reduceToNat, Int.reduceNeg]
      refine round_of ⟨i + 1, by omega, ?_⟩ ?_
      · simp -dsimp -implicitDefEqProofs (disch := first | omega | (simp only [List.length_append, List.length_cons, List.length_nil, List.length_take, List.length_drop]; omega)) only [hs2, Nat.add_mul, Nat.one_mul, ↓aPre, aPost, oneW, allOne, retV, retVA, ↓reduceIte, reduceCtorEq, Nat.reduceAdd, Nat.reduceSub, Nat.reduceMul, Nat.reduceLT, Nat.reduceLeDiff, Nat.reduceEqDiff, Nat.reduceDiv, Nat.reduceMod, Nat.reducePow, Int.reduceAdd, Int.reduceSub, Int.reduceMul, Int.reduceLT, Int.reduceLE, Int.reduceEq, Int.reduceNe, Int.reducePow, Int.reduceToNat, Int.reduceNeg]
        first | done | (congr 3; omega)
      · simp -dsimp -implicitDefEqProofs (disch := first | omega | (simp only [List.length_append, List.length_cons, List.length_nil, List.length_take, List.length_drop]; omega)) only [hs2, hs, ↓aPre, aPost, oneW, allOne, retV, retVA, ↓reduceIte, reduceCtorEq, Nat.reduceAdd, Nat.reduceSub, Nat.reduceMul, Nat.reduceLT, Nat.reduceLeDiff, Nat.reduceEqDiff, Nat.reduceDiv, Nat.reduceMod, Nat.reducePow, Int.reduceAdd, Int.reduceSub, Int.reduceMul, Int.reduceLT, Int.reduceLE, Int.reduceEq, Int.reduceNe, Int.reducePow, Int.reduceToNat, Int.reduceNeg]
        omega
  · obtain rfl : i = H := by omega
    have el := tab_len g (i * W)
    simp -dsimp -implicitDefEqProofs (disch := first | omega | (simp only [List.length_append, List.length_cons, List.length_nil, List.length_take, List.length_drop]; omega)) only [hs, el, ↓aPre, aPost, oneW, allOne, retV, retVA, ↓reduceIte, reduceCtorEq, Nat.reduceAdd, Nat.reduceSub, Nat.reduceMul, Nat.reduceLT, Nat.reduceLeDiff, Nat.reduceEqDiff, Nat.reduceDiv, Nat.reduceMod, Nat.reducePow, Int.reduceAdd, Int.reduceSub, Int.reduceMul, Int.reduceLT, Int.reduceLE, Int.reduceEq, Int.reduceNe, Int.reducePow, Int.reduceToNat, Int.reduceNeg]
    refine post_eq ?_
    rw [grL, ← hg]
def swpG (W H : Nat) (l : List Int) (i j : Nat) : Int := l.getD (j * W + i) 0
theorem swp_giv (W H : Nat) (l : List Int) (hW : W ≤ 4194304) (hH : H ≤ 4194304) (hWH : W * H ≤ 4194304) (hl : l.length = W * H) : Giv Try.prog 25 [gD W H l] (retV [gD H W (grL (swpG W H l) W H)]) := by
  have hHW : H * W ≤ 4194304 := by rw [Nat.mul_comm]; exact hWH
  have hll : l.length = H * W := by rw [hl, Nat.mul_comm]
  refine Giv.of mixed c25 (Nat.le_of_ble_eq_true rfl) ?_
  obtain ⟨g, hg⟩ : ∃ g, g = grF (swpG W H l) H := ⟨_, rfl⟩
  simp -dsimp -implicitDefEqProofs (disch := first | omega | (simp only [List.length_append, List.length_cons, List.length_nil, List.length_take, List.length_drop]; omega)) only [a25, gD, ↓aPre, aPost, oneW, allOne, retV, retVA, ↓reduceIte, reduceCtorEq, Nat.reduceAdd, Nat.reduceSub, Nat.reduceMul, Nat.reduceLT, Nat.reduceLeDiff, Nat.reduceEqDiff, Nat.reduceDiv, Nat.reduceMod, Nat.reducePow, Int.reduceAdd, Int.reduceSub, Int.reduceMul, Int.reduceLT, Int.reduceLE, Int.reduceEq, Int.reduceNe, Int.reducePow, Int.reduceToNat, Int.reduceNeg]
  refine loop_nilB 3 2 100 1 [.d (.c (.int .i64 H)), .d (.c (.int .i64 W)), .d (.c (.slice none 0 0))] (fun s => ∃ (i : Nat), i ≤ W ∧ s.tm 1 = .ptr 1 0 ∧ s.hp 1 = some (.box [.d (.c (.int .i64 W)), .d (.c (.int .i64 H)), .d (.lst 1 (li .i64 l))]) ∧ s.tm 2 = .ptr 2 0 ∧ s.hp 2 = some (.box [.d (.c (.int .i64 0)), .d (.c (.int .i64 0)), .d (.c (.slice none 0 0))]) ∧ s.tm 3 = .ptr 3 0 ∧ s.tm 4 = .d (.c (.int .i64 (i : Int))) ∧ s.hp 3 = some (.box [.d (.c (.int .i64 H)), .d (.c (.int .i64 W)), .sl 100 1 0 (i * H)]) ∧ s.hp 100 = some (.row 1 (li .i64 (tab g (i * H))))) (fun s => W - (avN (s.tm 4)).toNat) ?_ rfl (by decide) (by decide) ?_ ?_
  · simp -dsimp -implicitDefEqProofs (disch := first | omega | (simp only [List.length_append, List.length_cons, List.length_nil, List.length_take, List.length_drop]; omega)) only [↓aPre, aPost, oneW, allOne, retV, retVA, ↓reduceIte, reduceCtorEq, Nat.reduceAdd, Nat.reduceSub, Nat.reduceMul, Nat.reduceLT, Nat.reduceLeDiff, Nat.reduceEqDiff, Nat.reduceDiv, Nat.reduceMod, Nat.reducePow, Int.reduceAdd, Int.reduceSub, Int.reduceMul, Int.reduceLT, Int.reduceLE, Int.reduceEq, Int.reduceNe, Int.reducePow, Int.reduceToNat, Int.reduceNeg]
  · refine ⟨0, Nat.zero_le _, ?_⟩
    simp -dsimp -implicitDefEqProofs (disch := first | omega | (simp only [List.length_append, List.length_cons, List.length_nil, List.length_take, List.length_drop]; omega)) only [tab, Int.natCast_zero, Nat.zero_mul, List.set_cons_succ, List.set_cons_zero, ↓aPre, aPost, oneW, allOne, retV, retVA, ↓reduceIte, reduceCtorEq, Nat.reduceAdd, Nat.reduceSub, Nat.reduceMul, Nat.reduceLT, Nat.reduceLeDiff, Nat.reduceEqDiff, Nat.reduceDiv, Nat.reduceMod, Nat.reducePow, Int.reduceAdd, Int.reduceSub, Int.reduceMul, Int.reduceLT, Int.reduceLE, Int.reduceEq, Int.reduceNe, Int.reducePow, Int.reduceToNat, Int.reduceNeg]
  rintro s ⟨i, hi, hs⟩
  by_cases hlt : i < W
  · simp -dsimp -implicitDefEqProofs (disch := first | omega | (simp only [List.length_append, List.length_cons, List.length_nil, List.length_take, List.length_drop]; omega)) only [hs, ↓aPre, aPost, oneW, allOne, retV, retVA, ↓reduceIte, reduceCtorEq, Nat.reduceAdd, Nat.reduceSub, Nat.reduceMul, Nat.reduceLT, Nat.reduceLeDiff, Nat.reduceEqDiff, Nat.reduceDiv, Nat.reduceMod, Nat.reducePow, Int.reduceAdd, Int.reduceSub, Int.reduceMul, Int.reduceLT, Int.reduceLE, Int.reduceEq, Int.reduceNe, Int.reducePow, Int.reduceToNat, Int.reduceNeg]
    refine loop_of (fun s => ∃ (j : Nat), j ≤ H ∧ s.tm 1 = .ptr 1 0 ∧ s.hp 1 = some (.box [.d (.c (.int .i64 W)), .d (.c (.int .i64 H)), .d (.lst 1 (li .i64 l))]) ∧ s.tm 2 = .ptr 2 0 ∧ s.hp 2 = some (.box [.d (.c (.int .i64 0)), .d (.c (.int .i64 0)), .d (.c (.slice none 0 0))]) ∧ s.tm 3 = .ptr 3 0 ∧ s.tm 4 = .d (.c (.int .i64 (i : Int))) ∧ s.tm 5 = .d (.c (.int .i64 (j : Int))) ∧ s.hp 3 = some (.box [.d (.c (.int .i64 H)), .d (.c (.int .i64 W)), .sl 100 1 0 (i * H + j)]) ∧ s.hp 100 = some (.row 1 (li .i64 (tab g (i * H + j))))) (fun s => H - (avN (s.tm 5)).toNat) ?_ ?_
    · refine ⟨0, Nat.zero_le _, ?_⟩
      simp -dsimp -implicitDefEqProofs (disch := first | omega | (simp only [List.length_append, List.length_cons, List.length_nil, List.length_take, List.length_drop]; omega)) only [hs, Int.natCast_zero, ↓aPre, aPost, oneW, allOne, retV, retVA, ↓reduceIte, reduceCtorEq, Nat.reduceAdd, Nat.reduceSub, Nat.reduceMul, Nat.reduceLT, Nat.reduceLeDiff, Nat.reduceEqDiff, Nat.reduceDiv, Nat.reduceMod, Nat.reducePow, Int.reduceAdd, Int.reduceSub, Int.reduceMul, Int.reduceLT, Int.reduceLE, Int.reduceEq, Int.reduceNe, Int.reducePow, Int.reduceToNat, Int.reduceNeg]
    rintro s2 ⟨j, hj, hs2⟩
    have el := tab_len g (i * H + j)
    have hpl2 := place_lt (A := W) (B := H) (i := i) (j := j)
    by_cases hjl : j < H
    · have hpl2 := hpl2 hjl hlt
      have hpl := place_lt (A := H) (B := W) (i := j) (j := i) hlt hjl
      obtain ⟨p, hp⟩ : ∃ p : Nat, p = j * W := ⟨_, rfl⟩
      have hq : (j : Int) * (W : Int) = p := by rw [hp, Int.natCast_mul]
      rw [← hp] at hpl
      have hgv : g (i * H + j) = l.getD (p + i) 0 := by rw [hg, grF_at _ hjl, swpG, hp]
      have hq1 : ((p : Int) + (i : Int)).toNat = p + i := by omega
      have et : tab g (i * H + (j + 1)) = tab g (i * H + j) ++ [g (i * H + j)] := rfl
      simp -dsimp -implicitDefEqProofs (disch := first | omega | (simp only [List.length_append, List.length_cons, List.length_nil, List.length_take, List.length_drop]; omega)) only [hs2, hq, hq1, el, ↓aPre, aPost, oneW, allOne, retV, retVA, ↓reduceIte, reduceCtorEq, Nat.reduceAdd, Nat.reduceSub, Nat.reduceMul, Nat.reduceLT, Nat.reduceLeDiff, Nat.reduceEqDiff, Nat.reduceDiv, Nat.reduceMod, Nat.reducePow, Int.reduceAdd, Int.reduceSub, Int.reduceMul, Int.reduceLT, Int.reduceLE, Int.reduceEq, Int.reduceNe, Int.reducePow, Int.reduceToNat, Int.reduceNeg]
      refine round_of ⟨j + 1, by omega, ?_⟩ ?_
      · simp -dsimp -implicitDefEqProofs (disch := first | omega | (simp only [List.length_append, List.length_cons, List.length_nil, List.length_take, List.length_drop]; omega)) only [hs2, hq, hq1, el, ← hgv, et, Nat.add_assoc, ↓aPre, aPost, oneW, allOne, retV, retVA, ↓reduceIte, reduceCtorEq, Nat.reduceAdd, Nat.reduceSub, Nat.reduceMul, Nat.reduceLT, Nat.reduceLeDiff, Nat.reduceEqDiff, Nat.reduceDiv, Nat.reduceMod, Nat.reducePow, Int.reduceAdd, Int.reduceSub, Int.reduceMul, Int.reduceLT, Int.reduceLE, Int.reduceEq, Int.reduceNe, Int.reducePow, Int.reduceToNat, Int.reduceNeg]
      · simp -dsimp -implicitDefEqProofs (disch := first | omega | (simp only [List.length_append, List.length_cons, List.length_nil, List.length_take, List.length_drop]; omega)) only [hs2, ↓aPre, aPost, oneW, allOne, retV, retVA, ↓reduceIte, reduceCtorEq, Nat.reduceAdd, Nat.reduceSub, Nat.reduceMul, Nat.reduceLT, Nat.reduceLeDiff, Nat.reduceEqDiff, Nat.reduceDiv, Nat.reduceMod, Nat.reducePow, Int.reduceAdd, Int.reduceSub, Int.reduceMul, Int.reduceLT, Int.reduceLE, Int.reduceEq, Int.reduceNe, Int.reducePow, Int.reduceToNat, Int.reduceNeg]
        omega
    · obtain rfl : j = H := by omega
      simp -dsimp -implicitDefEqProofs (disch := first | omega | (simp only [List.length_append, List.length_cons, List.length_nil, List.length_take, List.length_drop]; omega)) only [hs2, ↓aPre, aPost, oneW, allOne, retV, retVA, ↓reduceIte, reduceCtorEq, Nat.reduceAdd, Nat.reduceSub, Nat.reduceMul, Nat.reduceLT, Nat.reduceLeDiff, Nat.reduceEqDiff, Nat.reduceDiv, Nat.reduceMod, Nat.reducePow, Int.reduceAdd, Int.reduceSub, Int.reduceMul, Int.reduceLT, Int.reduceLE, Int.reduceEq, Int.reduceNe, Int.reducePow, Int.reduceToNat, Int.reduceNeg]
      refine round_of ⟨i + 1, by omega, ?_⟩ ?_
      · simp -dsimp -implicitDefEqProofs (disch := first | omega | (simp only [List.length_append, List.length_cons, List.length_nil, List.length_take, List.length_drop]; omega)) only [hs2, Nat.add_mul, Nat.one_mul, ↓aPre, aPost, oneW, allOne, retV, retVA, ↓reduceIte, reduceCtorEq, Nat.reduceAdd, Nat.reduceSub, Nat.reduceMul, Nat.reduceLT, Nat.reduceLeDiff, Nat.reduceEqDiff, Nat.reduceDiv, Nat.reduceMod, Nat.reducePow, Int.reduceAdd, Int.reduceSub, Int.reduceMul, Int.reduceLT, Int.reduceLE, Int.reduceEq, Int.reduceNe, Int.reducePow, Int.reduceToNat, Int.reduceNeg]
      · simp -dsimp -implicitDefEqProofs (disch := first | omega | (simp only [List.length_append, List.length_cons, List.length_nil, List.length_take, List.length_drop]; omega)) only [hs2, hs, ↓aPre, aPost, oneW, allOne, retV, retVA, ↓reduceIte, reduceCtorEq, Nat.reduceAdd, Nat.reduceSub, Nat.reduceMul, Nat.reduceLT, Nat.reduceLeDiff, Nat.reduceEqDiff, Nat.reduceDiv, Nat.reduceMod, Nat.reducePow, Int.reduceAdd, Int.reduceSub, Int.reduceMul, Int.reduceLT, Int.reduceLE, Int.reduceEq, Int.reduceNe, Int.reducePow, Int.reduceToNat, Int.reduceNeg]
        omega
  · obtain rfl : i = W := by omega
    have el := tab_len g (i * H)
    simp -dsimp -implicitDefEqProofs (disch := first | omega | (simp only [List.length_append, List.length_cons, List.length_nil, List.length_take, List.length_drop]; omega)) only [hs, el, ↓aPre, aPost, oneW, allOne, retV, retVA, ↓reduceIte, reduceCtorEq, Nat.reduceAdd, Nat.reduceSub, Nat.reduceMul, Nat.reduceLT, Nat.reduceLeDiff, Nat.reduceEqDiff, Nat.reduceDiv, Nat.reduceMod, Nat.reducePow, Int.reduceAdd, Int.reduceSub, Int.reduceMul, Int.reduceLT, Int.reduceLE, Int.reduceEq, Int.reduceNe, Int.reducePow, Int.reduceToNat, Int.reduceNeg]
    refine post_eq ?_
    rw [grL, ← hg]
end Go.Proofs.Ytdpkmfjjhpfdbaa
