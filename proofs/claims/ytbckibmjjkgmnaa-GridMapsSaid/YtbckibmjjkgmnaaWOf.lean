/- The grids that are tried; cut grids. No condition but what each says. -/
import Derived.Test.YtbckibmjjkgmnaaWGrid
set_option linter.unusedSimpArgs false
set_option linter.unusedVariables false
set_option maxRecDepth 8000
set_option maxHeartbeats 4000000
namespace Go.Proofs.Ytbckibmjjkgmnaa
open Go.Eng Go.RowKit
def fillF (L : List Int) (j : Nat) : Int := if j < L.length then L.getD j 0 else ((j : Int) * 7) % 31
theorem fill_self (L : List Int) : tab (fillF L) L.length = L := (list_tab rfl fun i hi => by rw [fillF, if_pos hi]).symm
def ofL (W H : Int) (L : List Int) (fill : Bool) : List Int := if fill then tab (fillF L) (W * H).toNat else L
def someD (W H : Int) (L : List Int) (fill : Bool) : D := .agg [.c (.int .i64 W), .c (.int .i64 H), .lst 1 (li .i64 L), .c (.bool fill)]
theorem of_f (W H : Int) (L : List Int) (hL : L.length * 8 ≤ 140737488351232) (h : ¬ (0 ≤ W ∧ 0 ≤ H ∧ W ≤ 60 ∧ H ≤ 60)) : Giv Try.prog 9 [someD W H L true] (retV [gD 0 0 [], gD 0 0 [], .c (.bool false)]) := by
  refine Giv.of mixed c9 (Nat.le_of_ble_eq_true rfl) ?_
  by_cases h1 : W < 0
  · simp -dsimp -implicitDefEqProofs (disch := first | omega | (simp only [List.length_append, List.length_cons, List.length_nil, List.length_take, List.length_drop]; omega)) only [a9, someD, ↓aPre, aPost, oneW, allOne, retV, retVA, ↓reduceIte, reduceCtorEq, Nat.reduceAdd, Nat.reduceSub, Nat.reduceMul, Nat.reduceLT, Nat.reduceLeDiff, Nat.reduceEqDiff, Nat.reduceDiv, Nat.reduceMod, Nat.reducePow, Int.reduceAdd, Int.reduceSub, Int.reduceMul, Int.reduceLT, Int.reduceLE, Int.reduceEq, Int.reduceNe, Int.reducePow, Int.reduceToNat, Int.reduceNeg]
    exact post_le (by repeat (first | exact leD.nil | exact leE.refl _ | exact leE.nil _ | refine leD.cons ?_ ?_ | refine leE.agg ?_))
  by_cases h2 : H < 0
  · simp -dsimp -implicitDefEqProofs (disch := first | omega | (simp only [List.length_append, List.length_cons, List.length_nil, List.length_take, List.length_drop]; omega)) only [a9, someD, ↓aPre, aPost, oneW, allOne, retV, retVA, ↓reduceIte, reduceCtorEq, Nat.reduceAdd, Nat.reduceSub, Nat.reduceMul, Nat.reduceLT, Nat.reduceLeDiff, Nat.reduceEqDiff, Nat.reduceDiv, Nat.reduceMod, Nat.reducePow, Int.reduceAdd, Int.reduceSub, Int.reduceMul, Int.reduceLT, Int.reduceLE, Int.reduceEq, Int.reduceNe, Int.reducePow, Int.reduceToNat, Int.reduceNeg]
    exact post_le (by repeat (first | exact leD.nil | exact leE.refl _ | exact leE.nil _ | refine leD.cons ?_ ?_ | refine leE.agg ?_))
  by_cases h3 : 60 < W
  · simp -dsimp -implicitDefEqProofs (disch := first | omega | (simp only [List.length_append, List.length_cons, List.length_nil, List.length_take, List.length_drop]; omega)) only [a9, someD, ↓aPre, aPost, oneW, allOne, retV, retVA, ↓reduceIte, reduceCtorEq, Nat.reduceAdd, Nat.reduceSub, Nat.reduceMul, Nat.reduceLT, Nat.reduceLeDiff, Nat.reduceEqDiff, Nat.reduceDiv, Nat.reduceMod, Nat.reducePow, Int.reduceAdd, Int.reduceSub, Int.reduceMul, Int.reduceLT, Int.reduceLE, Int.reduceEq, Int.reduceNe, Int.reducePow, Int.reduceToNat, Int.reduceNeg]
    exact post_le (by repeat (first | exact leD.nil | exact leE.refl _ | exact leE.nil _ | refine leD.cons ?_ ?_ | refine leE.agg ?_))
  by_cases h4 : 60 < H
  · simp -dsimp -implicitDefEqProofs (disch := first | omega | (simp only [List.length_append, List.length_cons, List.length_nil, List.length_take, List.length_drop]; omega)) only [a9, someD, ↓aPre, aPost, oneW, allOne, retV, retVA, ↓reduceIte, reduceCtorEq, Nat.reduceAdd, Nat.reduceSub, Nat.reduceMul, Nat.reduceLT, Nat.reduceLeDiff, Nat.reduceEqDiff, Nat.reduceDiv, Nat.reduceMod, Nat.reducePow, Int.reduceAdd, Int.reduceSub, Int.reduceMul, Int.reduceLT, Int.reduceLE, Int.reduceEq, Int.reduceNe, Int.reducePow, Int.reduceToNat, Int.reduceNeg]
    exact post_le (by repeat (first | exact leD.nil | exact leE.refl _ | exact leE.nil _ | refine leD.cons ?_ ?_ | refine leE.agg ?_))
  omega
theorem of_n (W H : Int) (L : List Int) (hL : L.length * 8 ≤ 140737488351232) : Giv Try.prog 9 [someD W H L false] (retV [gD W H L, gD W H L, .c (.bool (decide (L.length ≤ 3600)))]) := by
  refine Giv.of mixed c9 (Nat.le_of_ble_eq_true rfl) ?_
  by_cases hl : (L.length : Int) ≤ 3600
  · simp -dsimp -implicitDefEqProofs (disch := first | omega | (simp only [List.length_append, List.length_cons, List.length_nil, List.length_take, List.length_drop]; omega)) only [a9, someD, ↓aPre, aPost, oneW, allOne, retV, retVA, ↓reduceIte, reduceCtorEq, Nat.reduceAdd, Nat.reduceSub, Nat.reduceMul, Nat.reduceLT, Nat.reduceLeDiff, Nat.reduceEqDiff, Nat.reduceDiv, Nat.reduceMod, Nat.reducePow, Int.reduceAdd, Int.reduceSub, Int.reduceMul, Int.reduceLT, Int.reduceLE, Int.reduceEq, Int.reduceNe, Int.reducePow, Int.reduceToNat, Int.reduceNeg]
    exact post_eq rfl
  · simp -dsimp -implicitDefEqProofs (disch := first | omega | (simp only [List.length_append, List.length_cons, List.length_nil, List.length_take, List.length_drop]; omega)) only [a9, someD, ↓aPre, aPost, oneW, allOne, retV, retVA, ↓reduceIte, reduceCtorEq, Nat.reduceAdd, Nat.reduceSub, Nat.reduceMul, Nat.reduceLT, Nat.reduceLeDiff, Nat.reduceEqDiff, Nat.reduceDiv, Nat.reduceMod, Nat.reducePow, Int.reduceAdd, Int.reduceSub, Int.reduceMul, Int.reduceLT, Int.reduceLE, Int.reduceEq, Int.reduceNe, Int.reducePow, Int.reduceToNat, Int.reduceNeg]
    exact post_eq rfl
theorem of_y (W H : Int) (L : List Int) (hL : L.length * 8 ≤ 140737488351232) (h : 0 ≤ W ∧ 0 ≤ H ∧ W ≤ 60 ∧ H ≤ 60) : Giv Try.prog 9 [someD W H L true] (retV [gD W H (ofL W H L true), gD W H (ofL W H L true), .c (.bool true)]) := by
  refine Giv.of mixed c9 (Nat.le_of_ble_eq_true rfl) ?_
  obtain ⟨h0, h1, h2, h3⟩ := h
  have hb := mul_bound h0 h1 h2 h3
  obtain ⟨p, hp⟩ : ∃ p : Nat, W * H = p := ⟨(W * H).toNat, by omega⟩
  have e0 := fill_self L
  rw [ofL, if_pos rfl, hp, Int.toNat_natCast]
  rw [hp] at hb
  simp -dsimp -implicitDefEqProofs (disch := first | omega | (simp only [List.length_append, List.length_cons, List.length_nil, List.length_take, List.length_drop]; omega)) only [a9, someD, ↓aPre, aPost, oneW, allOne, retV, retVA, ↓reduceIte, reduceCtorEq, Nat.reduceAdd, Nat.reduceSub, Nat.reduceMul, Nat.reduceLT, Nat.reduceLeDiff, Nat.reduceEqDiff, Nat.reduceDiv, Nat.reduceMod, Nat.reducePow, Int.reduceAdd, Int.reduceSub, Int.reduceMul, Int.reduceLT, Int.reduceLE, Int.reduceEq, Int.reduceNe, Int.reducePow, Int.reduceToNat, Int.reduceNeg]
  refine loop_of (fun s => ∃ (k : Nat), L.length ≤ k ∧ (k ≤ L.length ∨ k ≤ p) ∧ s.tm 1 = .ptr 1 0 ∧ s.hp 1 = some (.box [.d (.c (.int .i64 W)), .d (.c (.int .i64 H)), .d (.lst 1 (li .i64 L)), .d (.c (.bool true))]) ∧ s.tm 2 = .ptr 2 0 ∧ s.hp 2 = some (.box [.d (.c (.int .i64 0)), .d (.c (.int .i64 0)), .d (.c (.slice none 0 0))]) ∧ s.tm 3 = .ptr 3 0 ∧ s.hp 3 = some (.box [.d (.c (.int .i64 0)), .d (.c (.int .i64 0)), .d (.c (.slice none 0 0))]) ∧ s.tm 5 = .sl 6 1 0 k ∧ s.hp 6 = some (.row 1 (li .i64 (tab (fillF L) k)))) (fun s => match s.tm 5 with | .sl _ _ _ k => p - k | _ => 0) ?_ ?_
  · refine ⟨L.length, Nat.le_refl _, .inl (Nat.le_refl _), ?_⟩
    simp -dsimp -implicitDefEqProofs (disch := first | omega | (simp only [List.length_append, List.length_cons, List.length_nil, List.length_take, List.length_drop]; omega)) only [e0, ↓aPre, aPost, oneW, allOne, retV, retVA, ↓reduceIte, reduceCtorEq, Nat.reduceAdd, Nat.reduceSub, Nat.reduceMul, Nat.reduceLT, Nat.reduceLeDiff, Nat.reduceEqDiff, Nat.reduceDiv, Nat.reduceMod, Nat.reducePow, Int.reduceAdd, Int.reduceSub, Int.reduceMul, Int.reduceLT, Int.reduceLE, Int.reduceEq, Int.reduceNe, Int.reducePow, Int.reduceToNat, Int.reduceNeg]
  rintro s ⟨k, hk1, hk2, hs⟩
  have el := tab_len (fillF L) k
  by_cases hlt : k < p
  · have ev : ((k : Int) * 7) % 31 = fillF L k := by rw [fillF, if_neg (by omega)]
    simp -dsimp -implicitDefEqProofs (disch := first | omega | (simp only [List.length_append, List.length_cons, List.length_nil, List.length_take, List.length_drop]; omega)) only [hs, hp, el, ev, ↓aPre, aPost, oneW, allOne, retV, retVA, ↓reduceIte, reduceCtorEq, Nat.reduceAdd, Nat.reduceSub, Nat.reduceMul, Nat.reduceLT, Nat.reduceLeDiff, Nat.reduceEqDiff, Nat.reduceDiv, Nat.reduceMod, Nat.reducePow, Int.reduceAdd, Int.reduceSub, Int.reduceMul, Int.reduceLT, Int.reduceLE, Int.reduceEq, Int.reduceNe, Int.reducePow, Int.reduceToNat, Int.reduceNeg]
    refine round_of ⟨k + 1, by omega, by omega, ?_⟩ ?_
    · simp -dsimp -implicitDefEqProofs (disch := first | omega | (simp only [List.length_append, List.length_cons, List.length_nil, List.length_take, List.length_drop]; omega)) only [hs, hp, el, ev, tab, ↓aPre, aPost, oneW, allOne, retV, retVA, ↓reduceIte, reduceCtorEq, Nat.reduceAdd, Nat.reduceSub, Nat.reduceMul, Nat.reduceLT, Nat.reduceLeDiff, Nat.reduceEqDiff, Nat.reduceDiv, Nat.reduceMod, Nat.reducePow, Int.reduceAdd, Int.reduceSub, Int.reduceMul, Int.reduceLT, Int.reduceLE, Int.reduceEq, Int.reduceNe, Int.reducePow, Int.reduceToNat, Int.reduceNeg]
    · simp -dsimp -implicitDefEqProofs (disch := first | omega | (simp only [List.length_append, List.length_cons, List.length_nil, List.length_take, List.length_drop]; omega)) only [hs, hp, ↓aPre, aPost, oneW, allOne, retV, retVA, ↓reduceIte, reduceCtorEq, Nat.reduceAdd, Nat.reduceSub, Nat.reduceMul, Nat.reduceLT, Nat.reduceLeDiff, Nat.reduceEqDiff, Nat.reduceDiv, Nat.reduceMod, Nat.reducePow, Int.reduceAdd, Int.reduceSub, Int.reduceMul, Int.reduceLT, Int.reduceLE, Int.reduceEq, Int.reduceNe, Int.reducePow, Int.reduceToNat, Int.reduceNeg]
      omega
  · have et : (tab (fillF L) k).take p = tab (fillF L) p := tab_take _ (by omega)
    have el2 := tab_len (fillF L) p
    simp -dsimp -implicitDefEqProofs (disch := first | omega | (simp only [List.length_append, List.length_cons, List.length_nil, List.length_take, List.length_drop]; omega)) only [hs, hp, el, et, el2, ↓aPre, aPost, oneW, allOne, retV, retVA, ↓reduceIte, reduceCtorEq, Nat.reduceAdd, Nat.reduceSub, Nat.reduceMul, Nat.reduceLT, Nat.reduceLeDiff, Nat.reduceEqDiff, Nat.reduceDiv, Nat.reduceMod, Nat.reducePow, Int.reduceAdd, Int.reduceSub, Int.reduceMul, Int.reduceLT, Int.reduceLE, Int.reduceEq, Int.reduceNe, Int.reducePow, Int.reduceToNat, Int.reduceNeg]
    exact post_eq rfl
def rD (X Y w h : Int) : D := .agg [.c (.int .i64 X), .c (.int .i64 Y), .c (.int .i64 w), .c (.int .i64 h)]
def cutG (W H : Nat) (l : List Int) (X Y : Nat) (i j : Nat) : Int := l.getD (min (Y + i) (H - 1) * W + min (X + j) (W - 1)) 0
theorem cut_f (W H : Int) (l : List Int) (X Y w h : Int) (hl : l.length ≤ 140737488355328) (hn : ¬ (fitP w h ∧ hasP W H l X Y)) : Giv Try.prog 11 [gD W H l, rD X Y w h] (retV [gD 0 0 [], .c (.int .i64 1)]) := by
  refine Giv.of mixed c11 (Nat.le_of_ble_eq_true rfl) ?_
  by_cases hf : fitP w h
  · have hh : ¬ hasP W H l X Y := fun k => hn ⟨hf, k⟩
    simp -dsimp -implicitDefEqProofs (disch := first | omega | (simp only [List.length_append, List.length_cons, List.length_nil, List.length_take, List.length_drop]; omega)) only [a11, gD, rD, ↓aPre, aPost, oneW, allOne, retV, retVA, ↓reduceIte, reduceCtorEq, Nat.reduceAdd, Nat.reduceSub, Nat.reduceMul, Nat.reduceLT, Nat.reduceLeDiff, Nat.reduceEqDiff, Nat.reduceDiv, Nat.reduceMod, Nat.reducePow, Int.reduceAdd, Int.reduceSub, Int.reduceMul, Int.reduceLT, Int.reduceLE, Int.reduceEq, Int.reduceNe, Int.reducePow, Int.reduceToNat, Int.reduceNeg]
    refine call_own (new_own w h hf) ?_
    simp -dsimp -implicitDefEqProofs (disch := first | omega | (simp only [List.length_append, List.length_cons, List.length_nil, List.length_take, List.length_drop]; omega)) only [AV.ren, Ob.ren, ↓aPre, aPost, oneW, allOne, retV, retVA, ↓reduceIte, reduceCtorEq, Nat.reduceAdd, Nat.reduceSub, Nat.reduceMul, Nat.reduceLT, Nat.reduceLeDiff, Nat.reduceEqDiff, Nat.reduceDiv, Nat.reduceMod, Nat.reducePow, Int.reduceAdd, Int.reduceSub, Int.reduceMul, Int.reduceLT, Int.reduceLE, Int.reduceEq, Int.reduceNe, Int.reducePow, Int.reduceToNat, Int.reduceNeg]
    refine call_giv (right_giv W H l hl) ?_
    by_cases hr : rightP W H l
    · by_cases h1 : X < 0
      · simp -dsimp -implicitDefEqProofs (disch := first | omega | (simp only [List.length_append, List.length_cons, List.length_nil, List.length_take, List.length_drop]; omega)) only [hr, ↓aPre, aPost, oneW, allOne, retV, retVA, ↓reduceIte, reduceCtorEq, Nat.reduceAdd, Nat.reduceSub, Nat.reduceMul, Nat.reduceLT, Nat.reduceLeDiff, Nat.reduceEqDiff, Nat.reduceDiv, Nat.reduceMod, Nat.reducePow, Int.reduceAdd, Int.reduceSub, Int.reduceMul, Int.reduceLT, Int.reduceLE, Int.reduceEq, Int.reduceNe, Int.reducePow, Int.reduceToNat, Int.reduceNeg]
        exact post_le (by repeat (first | exact leD.nil | exact leE.refl _ | exact leE.nil _ | refine leD.cons ?_ ?_ | refine leE.agg ?_))
      by_cases h2 : Y < 0
      · simp -dsimp -implicitDefEqProofs (disch := first | omega | (simp only [List.length_append, List.length_cons, List.length_nil, List.length_take, List.length_drop]; omega)) only [hr, ↓aPre, aPost, oneW, allOne, retV, retVA, ↓reduceIte, reduceCtorEq, Nat.reduceAdd, Nat.reduceSub, Nat.reduceMul, Nat.reduceLT, Nat.reduceLeDiff, Nat.reduceEqDiff, Nat.reduceDiv, Nat.reduceMod, Nat.reducePow, Int.reduceAdd, Int.reduceSub, Int.reduceMul, Int.reduceLT, Int.reduceLE, Int.reduceEq, Int.reduceNe, Int.reducePow, Int.reduceToNat, Int.reduceNeg]
        exact post_le (by repeat (first | exact leD.nil | exact leE.refl _ | exact leE.nil _ | refine leD.cons ?_ ?_ | refine leE.agg ?_))
      by_cases h3 : W ≤ X
      · simp -dsimp -implicitDefEqProofs (disch := first | omega | (simp only [List.length_append, List.length_cons, List.length_nil, List.length_take, List.length_drop]; omega)) only [hr, ↓aPre, aPost, oneW, allOne, retV, retVA, ↓reduceIte, reduceCtorEq, Nat.reduceAdd, Nat.reduceSub, Nat.reduceMul, Nat.reduceLT, Nat.reduceLeDiff, Nat.reduceEqDiff, Nat.reduceDiv, Nat.reduceMod, Nat.reducePow, Int.reduceAdd, Int.reduceSub, Int.reduceMul, Int.reduceLT, Int.reduceLE, Int.reduceEq, Int.reduceNe, Int.reducePow, Int.reduceToNat, Int.reduceNeg]
        exact post_le (by repeat (first | exact leD.nil | exact leE.refl _ | exact leE.nil _ | refine leD.cons ?_ ?_ | refine leE.agg ?_))
      by_cases h4 : H ≤ Y
      · simp -dsimp -implicitDefEqProofs (disch := first | omega | (simp only [List.length_append, List.length_cons, List.length_nil, List.length_take, List.length_drop]; omega)) only [hr, ↓aPre, aPost, oneW, allOne, retV, retVA, ↓reduceIte, reduceCtorEq, Nat.reduceAdd, Nat.reduceSub, Nat.reduceMul, Nat.reduceLT, Nat.reduceLeDiff, Nat.reduceEqDiff, Nat.reduceDiv, Nat.reduceMod, Nat.reducePow, Int.reduceAdd, Int.reduceSub, Int.reduceMul, Int.reduceLT, Int.reduceLE, Int.reduceEq, Int.reduceNe, Int.reducePow, Int.reduceToNat, Int.reduceNeg]
        exact post_le (by repeat (first | exact leD.nil | exact leE.refl _ | exact leE.nil _ | refine leD.cons ?_ ?_ | refine leE.agg ?_))
      exact (hh ⟨hr, by omega, by omega, by omega, by omega⟩).elim
    · simp -dsimp -implicitDefEqProofs (disch := first | omega | (simp only [List.length_append, List.length_cons, List.length_nil, List.length_take, List.length_drop]; omega)) only [hr, ↓aPre, aPost, oneW, allOne, retV, retVA, ↓reduceIte, reduceCtorEq, Nat.reduceAdd, Nat.reduceSub, Nat.reduceMul, Nat.reduceLT, Nat.reduceLeDiff, Nat.reduceEqDiff, Nat.reduceDiv, Nat.reduceMod, Nat.reducePow, Int.reduceAdd, Int.reduceSub, Int.reduceMul, Int.reduceLT, Int.reduceLE, Int.reduceEq, Int.reduceNe, Int.reducePow, Int.reduceToNat, Int.reduceNeg]
      exact post_le (by repeat (first | exact leD.nil | exact leE.refl _ | exact leE.nil _ | refine leD.cons ?_ ?_ | refine leE.agg ?_))
  · simp -dsimp -implicitDefEqProofs (disch := first | omega | (simp only [List.length_append, List.length_cons, List.length_nil, List.length_take, List.length_drop]; omega)) only [a11, gD, rD, ↓aPre, aPost, oneW, allOne, retV, retVA, ↓reduceIte, reduceCtorEq, Nat.reduceAdd, Nat.reduceSub, Nat.reduceMul, Nat.reduceLT, Nat.reduceLeDiff, Nat.reduceEqDiff, Nat.reduceDiv, Nat.reduceMod, Nat.reducePow, Int.reduceAdd, Int.reduceSub, Int.reduceMul, Int.reduceLT, Int.reduceLE, Int.reduceEq, Int.reduceNe, Int.reducePow, Int.reduceToNat, Int.reduceNeg]
    refine call_giv (new_f w h hf) ?_
    simp -dsimp -implicitDefEqProofs (disch := first | omega | (simp only [List.length_append, List.length_cons, List.length_nil, List.length_take, List.length_drop]; omega)) only [gD, ↓aPre, aPost, oneW, allOne, retV, retVA, ↓reduceIte, reduceCtorEq, Nat.reduceAdd, Nat.reduceSub, Nat.reduceMul, Nat.reduceLT, Nat.reduceLeDiff, Nat.reduceEqDiff, Nat.reduceDiv, Nat.reduceMod, Nat.reducePow, Int.reduceAdd, Int.reduceSub, Int.reduceMul, Int.reduceLT, Int.reduceLE, Int.reduceEq, Int.reduceNe, Int.reducePow, Int.reduceToNat, Int.reduceNeg]
    exact post_le (by repeat (first | exact leD.nil | exact leE.refl _ | exact leE.nil _ | refine leD.cons ?_ ?_ | refine leE.agg ?_))
def cst (g : Nat → Int) (k : Nat) (j : Nat) : Int := if j < k then g j else 0
theorem cst_set (g : Nat → Int) {k n : Nat} (h : k < n) : (tab (cst g k) n).set k (g k) = tab (cst g (k + 1)) n := by
  rw [tab_set _ h]
  refine tab_congr _ fun j hj => ?_
  unfold cst
  by_cases c : j = k
  · subst c; rw [if_pos rfl, if_pos (by omega)]
  · rw [if_neg c]
    by_cases c2 : j < k
    · rw [if_pos c2, if_pos (by omega)]
    · rw [if_neg c2, if_neg (by omega)]
theorem cst_0 (g : Nat → Int) (n : Nat) : List.replicate n (0 : Int) = tab (cst g 0) n := by
  rw [rep_tab]
  exact tab_congr _ fun j _ => by rw [cst, if_neg (by omega)]
theorem cst_n (g : Nat → Int) (n : Nat) : tab (cst g n) n = tab g n := tab_congr _ fun j h => by rw [cst, if_pos h]
theorem cut_t (W H : Nat) (l : List Int) (X Y w h : Nat) (hr : rightP W H l) (hW : W ≤ 4194304) (hH : H ≤ 4194304) (hWH : W * H ≤ 4194304) (hl : l.length = W * H) (hX : X < W) (hY : Y < H) (hw : w ≤ 4194304) (hh : h ≤ 4194304) (hwh : w * h ≤ 4194304) :
    Giv Try.prog 11 [gD W H l, rD X Y w h] (retV [gD w h (grL (cutG W H l X Y) h w), .c (.int .i64 0)]) := by
  refine Giv.of mixed c11 (Nat.le_of_ble_eq_true rfl) ?_
  have hf : fitP w h := ⟨by omega, by omega, by omega, by omega, by rw [← Int.natCast_mul]; omega⟩
  obtain ⟨n, hn⟩ : ∃ n : Nat, n = w * h := ⟨_, rfl⟩
  have hn2 : ((w : Int) * (h : Int)).toNat = n := by rw [← Int.natCast_mul, ← hn, Int.toNat_natCast]
  have hhw : h * w = n := by rw [hn, Nat.mul_comm]
  obtain ⟨g, hg⟩ : ∃ g, g = grF (cutG W H l X Y) w := ⟨_, rfl⟩
  have e0 := cst_0 g n
  have hno := new_own w h hf
  rw [hn2, e0] at hno
  simp -dsimp -implicitDefEqProofs (disch := first | omega | (simp only [List.length_append, List.length_cons, List.length_nil, List.length_take, List.length_drop]; omega)) only [a11, gD, rD, ↓aPre, aPost, oneW, allOne, retV, retVA, ↓reduceIte, reduceCtorEq, Nat.reduceAdd, Nat.reduceSub, Nat.reduceMul, Nat.reduceLT, Nat.reduceLeDiff, Nat.reduceEqDiff, Nat.reduceDiv, Nat.reduceMod, Nat.reducePow, Int.reduceAdd, Int.reduceSub, Int.reduceMul, Int.reduceLT, Int.reduceLE, Int.reduceEq, Int.reduceNe, Int.reducePow, Int.reduceToNat, Int.reduceNeg]
  refine call_own hno ?_
  simp -dsimp -implicitDefEqProofs (disch := first | omega | (simp only [List.length_append, List.length_cons, List.length_nil, List.length_take, List.length_drop]; omega)) only [AV.ren, Ob.ren, ↓aPre, aPost, oneW, allOne, retV, retVA, ↓reduceIte, reduceCtorEq, Nat.reduceAdd, Nat.reduceSub, Nat.reduceMul, Nat.reduceLT, Nat.reduceLeDiff, Nat.reduceEqDiff, Nat.reduceDiv, Nat.reduceMod, Nat.reducePow, Int.reduceAdd, Int.reduceSub, Int.reduceMul, Int.reduceLT, Int.reduceLE, Int.reduceEq, Int.reduceNe, Int.reducePow, Int.reduceToNat, Int.reduceNeg]
  refine call_giv (right_giv W H l (by omega)) ?_
  simp -dsimp -implicitDefEqProofs (disch := first | omega | (simp only [List.length_append, List.length_cons, List.length_nil, List.length_take, List.length_drop]; omega)) only [hr, AV.ren, Ob.ren, ↓aPre, aPost, oneW, allOne, retV, retVA, ↓reduceIte, reduceCtorEq, Nat.reduceAdd, Nat.reduceSub, Nat.reduceMul, Nat.reduceLT, Nat.reduceLeDiff, Nat.reduceEqDiff, Nat.reduceDiv, Nat.reduceMod, Nat.reducePow, Int.reduceAdd, Int.reduceSub, Int.reduceMul, Int.reduceLT, Int.reduceLE, Int.reduceEq, Int.reduceNe, Int.reducePow, Int.reduceToNat, Int.reduceNeg]
  refine loop_of (fun s => ∃ (y : Nat), y ≤ h ∧ s.tm 52 = .d (.c (.int .i64 y)) ∧ s.tm 51 = .d (.c (.int .i64 h)) ∧ s.tm 2 = .ptr 2 0 ∧ s.hp 2 = some (.box [.d (.c (.int .i64 W)), .d (.c (.int .i64 H)), .d (.lst 1 (li .i64 l))]) ∧ s.tm 3 = .ptr 3 0 ∧ s.hp 3 = some (.box [.d (.c (.int .i64 X)), .d (.c (.int .i64 Y)), .d (.c (.int .i64 w)), .d (.c (.int .i64 h))]) ∧ s.tm 4 = .ptr 4 0 ∧ s.hp 4 = some (.box [.d (.c (.int .i64 0)), .d (.c (.int .i64 0)), .d (.c (.slice none 0 0))]) ∧ s.tm 6 = .ptr 6 0 ∧ s.hp 6 = some (.box [.d (.c (.int .i64 w)), .d (.c (.int .i64 h)), .sl 15 1 0 n]) ∧ s.hp 15 = some (.row 1 (li .i64 (tab (cst g (y * w)) n)))) (fun s => h - (avN (s.tm 52)).toNat) ?_ ?_
  · refine ⟨0, Nat.zero_le _, ?_⟩
    simp -dsimp -implicitDefEqProofs (disch := first | omega | (simp only [List.length_append, List.length_cons, List.length_nil, List.length_take, List.length_drop]; omega)) only [AV.ren, Ob.ren, Int.natCast_zero, Nat.zero_mul, ↓aPre, aPost, oneW, allOne, retV, retVA, ↓reduceIte, reduceCtorEq, Nat.reduceAdd, Nat.reduceSub, Nat.reduceMul, Nat.reduceLT, Nat.reduceLeDiff, Nat.reduceEqDiff, Nat.reduceDiv, Nat.reduceMod, Nat.reducePow, Int.reduceAdd, Int.reduceSub, Int.reduceMul, Int.reduceLT, Int.reduceLE, Int.reduceEq, Int.reduceNe, Int.reducePow, Int.reduceToNat, Int.reduceNeg]
  rintro s ⟨y, hy, hs⟩
  by_cases hlt : y < h
  · simp -dsimp -implicitDefEqProofs (disch := first | omega | (simp only [List.length_append, List.length_cons, List.length_nil, List.length_take, List.length_drop]; omega)) only [hs, ↓aPre, aPost, oneW, allOne, retV, retVA, ↓reduceIte, reduceCtorEq, Nat.reduceAdd, Nat.reduceSub, Nat.reduceMul, Nat.reduceLT, Nat.reduceLeDiff, Nat.reduceEqDiff, Nat.reduceDiv, Nat.reduceMod, Nat.reducePow, Int.reduceAdd, Int.reduceSub, Int.reduceMul, Int.reduceLT, Int.reduceLE, Int.reduceEq, Int.reduceNe, Int.reducePow, Int.reduceToNat, Int.reduceNeg]
    refine loop_of (fun s => ∃ (x : Nat), x ≤ w ∧ s.tm 57 = .d (.c (.int .i64 x)) ∧ s.tm 56 = .d (.c (.int .i64 w)) ∧ s.tm 8 = .d (.c (.int .i64 y)) ∧ s.tm 52 = .d (.c (.int .i64 y)) ∧ s.tm 51 = .d (.c (.int .i64 h)) ∧ s.tm 2 = .ptr 2 0 ∧ s.hp 2 = some (.box [.d (.c (.int .i64 W)), .d (.c (.int .i64 H)), .d (.lst 1 (li .i64 l))]) ∧ s.tm 3 = .ptr 3 0 ∧ s.hp 3 = some (.box [.d (.c (.int .i64 X)), .d (.c (.int .i64 Y)), .d (.c (.int .i64 w)), .d (.c (.int .i64 h))]) ∧ s.tm 4 = .ptr 4 0 ∧ s.hp 4 = some (.box [.d (.c (.int .i64 0)), .d (.c (.int .i64 0)), .d (.c (.slice none 0 0))]) ∧ s.tm 6 = .ptr 6 0 ∧ s.hp 6 = some (.box [.d (.c (.int .i64 w)), .d (.c (.int .i64 h)), .sl 15 1 0 n]) ∧ s.hp 15 = some (.row 1 (li .i64 (tab (cst g (y * w + x)) n)))) (fun s => w - (avN (s.tm 57)).toNat) ?_ ?_
    · refine ⟨0, Nat.zero_le _, ?_⟩
      simp -dsimp -implicitDefEqProofs (disch := first | omega | (simp only [List.length_append, List.length_cons, List.length_nil, List.length_take, List.length_drop]; omega)) only [hs, Int.natCast_zero, ↓aPre, aPost, oneW, allOne, retV, retVA, ↓reduceIte, reduceCtorEq, Nat.reduceAdd, Nat.reduceSub, Nat.reduceMul, Nat.reduceLT, Nat.reduceLeDiff, Nat.reduceEqDiff, Nat.reduceDiv, Nat.reduceMod, Nat.reducePow, Int.reduceAdd, Int.reduceSub, Int.reduceMul, Int.reduceLT, Int.reduceLE, Int.reduceEq, Int.reduceNe, Int.reducePow, Int.reduceToNat, Int.reduceNeg]
    rintro s2 ⟨x, hx, hs2⟩
    have el := tab_len (cst g (y * w + x)) n
    by_cases hxl : x < w
    · have hpl2 := place_lt hxl hlt
      rw [hhw] at hpl2
      obtain ⟨b, hbe, hb⟩ : ∃ b : Nat, b = min (Y + y) (H - 1) ∧ b < H := ⟨_, rfl, by omega⟩
      obtain ⟨a, hae, ha⟩ : ∃ a : Nat, a = min (X + x) (W - 1) ∧ a < W := ⟨_, rfl, by omega⟩
      have hpl := place_lt ha hb
      have hll : l.length = H * W := by rw [hl, Nat.mul_comm]
      obtain ⟨p, hp⟩ : ∃ p : Nat, p = b * W := ⟨_, rfl⟩
      have hp2 : (b : Int) * (W : Int) = p := by rw [hp, Int.natCast_mul]
      obtain ⟨q, hq⟩ : ∃ q : Nat, q = y * w := ⟨_, rfl⟩
      have hq2 : (y : Int) * (w : Int) = q := by rw [hq, Int.natCast_mul]
      have hgv : g (y * w + x) = l.getD (p + a) 0 := by rw [hg, grF_at _ hxl, cutG, ← hbe, ← hae, hp]
      have e1 : ((p : Int) + a).toNat = p + a := by omega
      have e2 : ((q : Int) + x).toNat = q + x := by omega
      have es := cst_set g hpl2
      rw [hgv] at es
      rw [← hp] at hpl
      rw [← hq] at hs2 el hpl2 hgv es
      have hH2 : H * W ≤ 4194304 := by rw [Nat.mul_comm]; exact hWH
      have cb : (if (H : Int) - 1 < (Y : Int) + y then (H : Int) - 1 else (Y : Int) + y) = b := by split <;> omega
      have ca : (if (W : Int) - 1 < (X : Int) + x then (W : Int) - 1 else (X : Int) + x) = a := by split <;> omega
      simp -dsimp -implicitDefEqProofs (disch := first | omega | (simp only [List.length_append, List.length_cons, List.length_nil, List.length_take, List.length_drop]; omega)) only [hs2, cb, ca, hp2, hq2, e1, e2, el, ↓aPre, aPost, oneW, allOne, retV, retVA, ↓reduceIte, reduceCtorEq, Nat.reduceAdd, Nat.reduceSub, Nat.reduceMul, Nat.reduceLT, Nat.reduceLeDiff, Nat.reduceEqDiff, Nat.reduceDiv, Nat.reduceMod, Nat.reducePow, Int.reduceAdd, Int.reduceSub, Int.reduceMul, Int.reduceLT, Int.reduceLE, Int.reduceEq, Int.reduceNe, Int.reducePow, Int.reduceToNat, Int.reduceNeg]
      refine round_of ⟨x + 1, by omega, ?_⟩ ?_
      · rw [← hq]
        simp -dsimp -implicitDefEqProofs (disch := first | omega | (simp only [List.length_append, List.length_cons, List.length_nil, List.length_take, List.length_drop]; omega)) only [hs2, cb, ca, hp2, hq2, e1, e2, el, es, Nat.add_assoc, ↓aPre, aPost, oneW, allOne, retV, retVA, ↓reduceIte, reduceCtorEq, Nat.reduceAdd, Nat.reduceSub, Nat.reduceMul, Nat.reduceLT, Nat.reduceLeDiff, Nat.reduceEqDiff, Nat.reduceDiv, Nat.reduceMod, Nat.reducePow, Int.reduceAdd, Int.reduceSub, Int.reduceMul, Int.reduceLT, Int.reduceLE, Int.reduceEq, Int.reduceNe, Int.reducePow, Int.reduceToNat, Int.reduceNeg]
      · simp -dsimp -implicitDefEqProofs (disch := first | omega | (simp only [List.length_append, List.length_cons, List.length_nil, List.length_take, List.length_drop]; omega)) only [hs2, ↓aPre, aPost, oneW, allOne, retV, retVA, ↓reduceIte, reduceCtorEq, Nat.reduceAdd, Nat.reduceSub, Nat.reduceMul, Nat.reduceLT, Nat.reduceLeDiff, Nat.reduceEqDiff, Nat.reduceDiv, Nat.reduceMod, Nat.reducePow, Int.reduceAdd, Int.reduceSub, Int.reduceMul, Int.reduceLT, Int.reduceLE, Int.reduceEq, Int.reduceNe, Int.reducePow, Int.reduceToNat, Int.reduceNeg]
        omega
    · obtain rfl : x = w := by omega
      simp -dsimp -implicitDefEqProofs (disch := first | omega | (simp only [List.length_append, List.length_cons, List.length_nil, List.length_take, List.length_drop]; omega)) only [hs2, ↓aPre, aPost, oneW, allOne, retV, retVA, ↓reduceIte, reduceCtorEq, Nat.reduceAdd, Nat.reduceSub, Nat.reduceMul, Nat.reduceLT, Nat.reduceLeDiff, Nat.reduceEqDiff, Nat.reduceDiv, Nat.reduceMod, Nat.reducePow, Int.reduceAdd, Int.reduceSub, Int.reduceMul, Int.reduceLT, Int.reduceLE, Int.reduceEq, Int.reduceNe, Int.reducePow, Int.reduceToNat, Int.reduceNeg]
      refine round_of ⟨y + 1, by omega, ?_⟩ ?_
      · simp -dsimp -implicitDefEqProofs (disch := first | omega | (simp only [List.length_append, List.length_cons, List.length_nil, List.length_take, List.length_drop]; omega)) only [hs2, Nat.add_mul, Nat.one_mul, ↓aPre, aPost, oneW, allOne, retV, retVA, ↓reduceIte, reduceCtorEq, Nat.reduceAdd, Nat.reduceSub, Nat.reduceMul, Nat.reduceLT, Nat.reduceLeDiff, Nat.reduceEqDiff, Nat.reduceDiv, Nat.reduceMod, Nat.reducePow, Int.reduceAdd, Int.reduceSub, Int.reduceMul, Int.reduceLT, Int.reduceLE, Int.reduceEq, Int.reduceNe, Int.reducePow, Int.reduceToNat, Int.reduceNeg]
      · simp -dsimp -implicitDefEqProofs (disch := first | omega | (simp only [List.length_append, List.length_cons, List.length_nil, List.length_take, List.length_drop]; omega)) only [hs2, hs, ↓aPre, aPost, oneW, allOne, retV, retVA, ↓reduceIte, reduceCtorEq, Nat.reduceAdd, Nat.reduceSub, Nat.reduceMul, Nat.reduceLT, Nat.reduceLeDiff, Nat.reduceEqDiff, Nat.reduceDiv, Nat.reduceMod, Nat.reducePow, Int.reduceAdd, Int.reduceSub, Int.reduceMul, Int.reduceLT, Int.reduceLE, Int.reduceEq, Int.reduceNe, Int.reducePow, Int.reduceToNat, Int.reduceNeg]
        omega
  · obtain rfl : y = h := by omega
    have el := tab_len (cst g (y * w)) n
    have ef : tab (cst g (y * w)) n = tab g n := by rw [hhw]; exact cst_n g n
    rw [ef] at hs el
    simp -dsimp -implicitDefEqProofs (disch := first | omega | (simp only [List.length_append, List.length_cons, List.length_nil, List.length_take, List.length_drop]; omega)) only [hs, el, ↓aPre, aPost, oneW, allOne, retV, retVA, ↓reduceIte, reduceCtorEq, Nat.reduceAdd, Nat.reduceSub, Nat.reduceMul, Nat.reduceLT, Nat.reduceLeDiff, Nat.reduceEqDiff, Nat.reduceDiv, Nat.reduceMod, Nat.reducePow, Int.reduceAdd, Int.reduceSub, Int.reduceMul, Int.reduceLT, Int.reduceLE, Int.reduceEq, Int.reduceNe, Int.reducePow, Int.reduceToNat, Int.reduceNeg]
    refine post_eq ?_
    rw [grL, hhw, ← hg]
end Go.Proofs.Ytbckibmjjkgmnaa
