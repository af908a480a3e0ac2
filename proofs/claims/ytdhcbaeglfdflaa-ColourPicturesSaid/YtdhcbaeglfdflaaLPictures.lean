/- ColourPictures: the law's function gives true of all data. No condition but that whole numbers are of their kinds. -/
import Derived.Test.YtdhcbaeglfdflaaLPixels
set_option linter.unusedSimpArgs false
set_option linter.unusedVariables false
set_option maxRecDepth 8000
set_option maxHeartbeats 4000000
namespace Go.Proofs.Ytdhcbaeglfdflaa
open Go.Eng Go.RowKit
def tabD (f : Nat → D) : Nat → List D
  | 0 => []
  | n + 1 => tabD f n ++ [f n]
theorem tabD_len (f : Nat → D) : ∀ n, (tabD f n).length = n
  | 0 => rfl
  | n + 1 => by rw [tabD, List.length_append, tabD_len f n]; rfl
theorem tabD_get (f : Nat → D) : ∀ {n i : Nat}, i < n → (tabD f n).getD i default = f i
  | n + 1, i, h => by
    rw [tabD]
    simp only [List.getD, List.getElem?_append, tabD_len]
    by_cases c : i < n
    · rw [if_pos c]
      have := tabD_get f c
      simpa only [List.getD] using this
    · obtain rfl : i = n := by omega
      rw [if_neg c, Nat.sub_self]
      rfl
theorem tabD_set (f : Nat → D) {n i : Nat} (hi : i < n) (x : D) : (tabD f n).set i x = tabD (fun j => if j = i then x else f j) n := by
  apply List.ext_getElem?
  intro q
  by_cases hq : q < n
  · have h1 : ((tabD f n).set i x).length = n := by rw [List.length_set, tabD_len]
    have h2 : (tabD (fun j => if j = i then x else f j) n).length = n := tabD_len _ _
    have g1 := tabD_get f hq
    have g2 := tabD_get (fun j => if j = i then x else f j) hq
    have l0 := tabD_len f n
    simp only [List.getD, List.getElem?_eq_getElem (show q < (tabD f n).length by omega), Option.getD_some] at g1
    simp only [List.getD, List.getElem?_eq_getElem (show q < (tabD (fun j => if j = i then x else f j) n).length by omega), Option.getD_some] at g2
    rw [List.getElem?_set, List.getElem?_eq_getElem (show q < (tabD (fun j => if j = i then x else f j) n).length by omega), g2]
    by_cases e : i = q
    · rw [if_pos e, if_pos (by omega), if_pos e.symm]
    · rw [if_neg e, if_neg (fun c => e c.symm), List.getElem?_eq_getElem (show q < (tabD f n).length by omega), g1]
  · rw [List.getElem?_eq_none (by rw [List.length_set, tabD_len]; omega), List.getElem?_eq_none (by rw [tabD_len]; omega)]
theorem tabD_congr {f g : Nat → D} : ∀ n, (∀ i, i < n → f i = g i) → tabD f n = tabD g n
  | 0, _ => rfl
  | n + 1, h => by rw [tabD, tabD, tabD_congr n fun i hi => h i (by omega), h n (by omega)]
theorem rep_tabD (x : D) : ∀ n, List.replicate n x = tabD (fun _ => x) n
  | 0 => rfl
  | n + 1 => by rw [List.replicate_succ', rep_tabD x n]; rfl
def fitP (w h : Int) : Prop := 0 ≤ w ∧ 0 ≤ h ∧ w ≤ 4194304 ∧ h ≤ 4194304 ∧ w * h ≤ 4194304
theorem fits_t {w h n : Nat} (hw : w ≤ 4194304) (hh : h ≤ 4194304) (hp : w * h = n) (hn : n ≤ 4194304) : Giv Try.prog 22 [.c (.int .i64 w), .c (.int .i64 h)] (retV [.c (.bool true)]) ∧ Giv Try.prog 16 [.c (.int .i64 w), .c (.int .i64 h)] (retV [.c (.bool true)]) := by
  have hp2 : (w : Int) * (h : Int) = n := by rw [← hp, Int.natCast_mul]
  constructor
  · refine Giv.of mixed c22 (Nat.le_of_ble_eq_true rfl) ?_
    simp -dsimp -implicitDefEqProofs (disch := first | omega | (simp only [List.length_append, List.length_cons, List.length_nil, List.length_take, List.length_drop]; omega)) only [a22, hp2, ↓aPre, aPost, oneW, allOne, retV, retVA, ↓reduceIte, reduceCtorEq, Nat.reduceAdd, Nat.reduceSub, Nat.reduceMul, Nat.reduceLT, Nat.reduceLeDiff, Nat.reduceEqDiff, Nat.reduceDiv, Nat.reduceMod, Nat.reducePow, Int.reduceAdd, Int.reduceSub, Int.reduceMul, Int.reduceLT, Int.reduceLE, Int.reduceEq, Int.reduceNe, Int.reducePow, Int.reduceToNat, Int.reduceNeg]
    exact post_eq rfl
  · refine Giv.of mixed c16 (Nat.le_of_ble_eq_true rfl) ?_
    simp -dsimp -implicitDefEqProofs (disch := first | omega | (simp only [List.length_append, List.length_cons, List.length_nil, List.length_take, List.length_drop]; omega)) only [a16, hp2, ↓aPre, aPost, oneW, allOne, retV, retVA, ↓reduceIte, reduceCtorEq, Nat.reduceAdd, Nat.reduceSub, Nat.reduceMul, Nat.reduceLT, Nat.reduceLeDiff, Nat.reduceEqDiff, Nat.reduceDiv, Nat.reduceMod, Nat.reducePow, Int.reduceAdd, Int.reduceSub, Int.reduceMul, Int.reduceLT, Int.reduceLE, Int.reduceEq, Int.reduceNe, Int.reducePow, Int.reduceToNat, Int.reduceNeg]
    exact post_eq rfl
theorem fits_f {w h : Int} (hf : ¬ fitP w h) (hw : -9223372036854775808 ≤ w ∧ w ≤ 9223372036854775807) (hh : -9223372036854775808 ≤ h ∧ h ≤ 9223372036854775807) : Giv Try.prog 22 [.c (.int .i64 w), .c (.int .i64 h)] (retV [.c (.bool false)]) ∧ Giv Try.prog 16 [.c (.int .i64 w), .c (.int .i64 h)] (retV [.c (.bool false)]) := by
  unfold fitP at hf
  by_cases h1 : 0 ≤ w
  rotate_left
  · constructor
    · refine Giv.of mixed c22 (Nat.le_of_ble_eq_true rfl) ?_
      have h1' : ¬ w ≥ 0 := h1
      simp -dsimp -implicitDefEqProofs (disch := first | omega | (simp only [List.length_append, List.length_cons, List.length_nil, List.length_take, List.length_drop]; omega)) only [a22, h1', ↓aPre, aPost, oneW, allOne, retV, retVA, ↓reduceIte, reduceCtorEq, Nat.reduceAdd, Nat.reduceSub, Nat.reduceMul, Nat.reduceLT, Nat.reduceLeDiff, Nat.reduceEqDiff, Nat.reduceDiv, Nat.reduceMod, Nat.reducePow, Int.reduceAdd, Int.reduceSub, Int.reduceMul, Int.reduceLT, Int.reduceLE, Int.reduceEq, Int.reduceNe, Int.reducePow, Int.reduceToNat, Int.reduceNeg]
      exact post_eq rfl
    · refine Giv.of mixed c16 (Nat.le_of_ble_eq_true rfl) ?_
      have h1' : w < 0 := by omega
      simp -dsimp -implicitDefEqProofs (disch := first | omega | (simp only [List.length_append, List.length_cons, List.length_nil, List.length_take, List.length_drop]; omega)) only [a16, h1', ↓aPre, aPost, oneW, allOne, retV, retVA, ↓reduceIte, reduceCtorEq, Nat.reduceAdd, Nat.reduceSub, Nat.reduceMul, Nat.reduceLT, Nat.reduceLeDiff, Nat.reduceEqDiff, Nat.reduceDiv, Nat.reduceMod, Nat.reducePow, Int.reduceAdd, Int.reduceSub, Int.reduceMul, Int.reduceLT, Int.reduceLE, Int.reduceEq, Int.reduceNe, Int.reducePow, Int.reduceToNat, Int.reduceNeg]
      exact post_eq rfl
  by_cases h2 : 0 ≤ h
  rotate_left
  · constructor
    · refine Giv.of mixed c22 (Nat.le_of_ble_eq_true rfl) ?_
      have h2' : ¬ h ≥ 0 := h2
      have h1' : w ≥ 0 := h1
      simp -dsimp -implicitDefEqProofs (disch := first | omega | (simp only [List.length_append, List.length_cons, List.length_nil, List.length_take, List.length_drop]; omega)) only [a22, h1', h2', ↓aPre, aPost, oneW, allOne, retV, retVA, ↓reduceIte, reduceCtorEq, Nat.reduceAdd, Nat.reduceSub, Nat.reduceMul, Nat.reduceLT, Nat.reduceLeDiff, Nat.reduceEqDiff, Nat.reduceDiv, Nat.reduceMod, Nat.reducePow, Int.reduceAdd, Int.reduceSub, Int.reduceMul, Int.reduceLT, Int.reduceLE, Int.reduceEq, Int.reduceNe, Int.reducePow, Int.reduceToNat, Int.reduceNeg]
      exact post_eq rfl
    · refine Giv.of mixed c16 (Nat.le_of_ble_eq_true rfl) ?_
      have h1' : ¬ w < 0 := by omega
      have h2' : h < 0 := by omega
      simp -dsimp -implicitDefEqProofs (disch := first | omega | (simp only [List.length_append, List.length_cons, List.length_nil, List.length_take, List.length_drop]; omega)) only [a16, h1', h2', ↓aPre, aPost, oneW, allOne, retV, retVA, ↓reduceIte, reduceCtorEq, Nat.reduceAdd, Nat.reduceSub, Nat.reduceMul, Nat.reduceLT, Nat.reduceLeDiff, Nat.reduceEqDiff, Nat.reduceDiv, Nat.reduceMod, Nat.reducePow, Int.reduceAdd, Int.reduceSub, Int.reduceMul, Int.reduceLT, Int.reduceLE, Int.reduceEq, Int.reduceNe, Int.reducePow, Int.reduceToNat, Int.reduceNeg]
      exact post_eq rfl
  have h1' : w ≥ 0 := h1
  have h2' : h ≥ 0 := h2
  have h1n : ¬ w < 0 := by omega
  have h2n : ¬ h < 0 := by omega
  by_cases h3 : w ≤ 4194304
  rotate_left
  · constructor
    · refine Giv.of mixed c22 (Nat.le_of_ble_eq_true rfl) ?_
      simp -dsimp -implicitDefEqProofs (disch := first | omega | (simp only [List.length_append, List.length_cons, List.length_nil, List.length_take, List.length_drop]; omega)) only [a22, h1', h2', h3, ↓aPre, aPost, oneW, allOne, retV, retVA, ↓reduceIte, reduceCtorEq, Nat.reduceAdd, Nat.reduceSub, Nat.reduceMul, Nat.reduceLT, Nat.reduceLeDiff, Nat.reduceEqDiff, Nat.reduceDiv, Nat.reduceMod, Nat.reducePow, Int.reduceAdd, Int.reduceSub, Int.reduceMul, Int.reduceLT, Int.reduceLE, Int.reduceEq, Int.reduceNe, Int.reducePow, Int.reduceToNat, Int.reduceNeg]
      exact post_eq rfl
    · refine Giv.of mixed c16 (Nat.le_of_ble_eq_true rfl) ?_
      have h3' : w > 4194304 := by omega
      simp -dsimp -implicitDefEqProofs (disch := first | omega | (simp only [List.length_append, List.length_cons, List.length_nil, List.length_take, List.length_drop]; omega)) only [a16, h1n, h2n, h3', ↓aPre, aPost, oneW, allOne, retV, retVA, ↓reduceIte, reduceCtorEq, Nat.reduceAdd, Nat.reduceSub, Nat.reduceMul, Nat.reduceLT, Nat.reduceLeDiff, Nat.reduceEqDiff, Nat.reduceDiv, Nat.reduceMod, Nat.reducePow, Int.reduceAdd, Int.reduceSub, Int.reduceMul, Int.reduceLT, Int.reduceLE, Int.reduceEq, Int.reduceNe, Int.reducePow, Int.reduceToNat, Int.reduceNeg]
      exact post_eq rfl
  have h3n : ¬ w > 4194304 := by omega
  by_cases h4 : h ≤ 4194304
  rotate_left
  · constructor
    · refine Giv.of mixed c22 (Nat.le_of_ble_eq_true rfl) ?_
      simp -dsimp -implicitDefEqProofs (disch := first | omega | (simp only [List.length_append, List.length_cons, List.length_nil, List.length_take, List.length_drop]; omega)) only [a22, h1', h2', h3, h4, ↓aPre, aPost, oneW, allOne, retV, retVA, ↓reduceIte, reduceCtorEq, Nat.reduceAdd, Nat.reduceSub, Nat.reduceMul, Nat.reduceLT, Nat.reduceLeDiff, Nat.reduceEqDiff, Nat.reduceDiv, Nat.reduceMod, Nat.reducePow, Int.reduceAdd, Int.reduceSub, Int.reduceMul, Int.reduceLT, Int.reduceLE, Int.reduceEq, Int.reduceNe, Int.reducePow, Int.reduceToNat, Int.reduceNeg]
      exact post_eq rfl
    · refine Giv.of mixed c16 (Nat.le_of_ble_eq_true rfl) ?_
      have h4' : h > 4194304 := by omega
      simp -dsimp -implicitDefEqProofs (disch := first | omega | (simp only [List.length_append, List.length_cons, List.length_nil, List.length_take, List.length_drop]; omega)) only [a16, h1n, h2n, h3n, h4', ↓aPre, aPost, oneW, allOne, retV, retVA, ↓reduceIte, reduceCtorEq, Nat.reduceAdd, Nat.reduceSub, Nat.reduceMul, Nat.reduceLT, Nat.reduceLeDiff, Nat.reduceEqDiff, Nat.reduceDiv, Nat.reduceMod, Nat.reducePow, Int.reduceAdd, Int.reduceSub, Int.reduceMul, Int.reduceLT, Int.reduceLE, Int.reduceEq, Int.reduceNe, Int.reducePow, Int.reduceToNat, Int.reduceNeg]
      exact post_eq rfl
  have h4n : ¬ h > 4194304 := by omega
  obtain ⟨W, rfl⟩ := Int.eq_ofNat_of_zero_le h1
  obtain ⟨H, rfl⟩ := Int.eq_ofNat_of_zero_le h2
  obtain ⟨n, hn⟩ : ∃ n : Nat, W * H = n := ⟨_, rfl⟩
  have hp2 : (W : Int) * (H : Int) = n := by rw [← hn, Int.natCast_mul]
  have hnb : n ≤ 4194304 * 4194304 := by rw [← hn]; exact Nat.mul_le_mul (by omega) (by omega)
  have h5 : ¬ (n : Int) ≤ 4194304 := fun c => hf ⟨h1, h2, h3, h4, by rw [hp2]; exact c⟩
  constructor
  · refine Giv.of mixed c22 (Nat.le_of_ble_eq_true rfl) ?_
    simp -dsimp -implicitDefEqProofs (disch := first | omega | (simp only [List.length_append, List.length_cons, List.length_nil, List.length_take, List.length_drop]; omega)) only [a22, hp2, h5, ↓aPre, aPost, oneW, allOne, retV, retVA, ↓reduceIte, reduceCtorEq, Nat.reduceAdd, Nat.reduceSub, Nat.reduceMul, Nat.reduceLT, Nat.reduceLeDiff, Nat.reduceEqDiff, Nat.reduceDiv, Nat.reduceMod, Nat.reducePow, Int.reduceAdd, Int.reduceSub, Int.reduceMul, Int.reduceLT, Int.reduceLE, Int.reduceEq, Int.reduceNe, Int.reducePow, Int.reduceToNat, Int.reduceNeg]
    exact post_eq rfl
  · refine Giv.of mixed c16 (Nat.le_of_ble_eq_true rfl) ?_
    simp -dsimp -implicitDefEqProofs (disch := first | omega | (simp only [List.length_append, List.length_cons, List.length_nil, List.length_take, List.length_drop]; omega)) only [a16, hp2, h5, ↓aPre, aPost, oneW, allOne, retV, retVA, ↓reduceIte, reduceCtorEq, Nat.reduceAdd, Nat.reduceSub, Nat.reduceMul, Nat.reduceLT, Nat.reduceLeDiff, Nat.reduceEqDiff, Nat.reduceDiv, Nat.reduceMod, Nat.reducePow, Int.reduceAdd, Int.reduceSub, Int.reduceMul, Int.reduceLT, Int.reduceLE, Int.reduceEq, Int.reduceNe, Int.reducePow, Int.reduceToNat, Int.reduceNeg]
    exact post_eq rfl
theorem new_t {w h n : Nat} (hw : w ≤ 4194304) (hh : h ≤ 4194304) (hp : w * h = n) (hn : n ≤ 4194304) : GivO Try.prog 21 [.c (.int .i64 w), .c (.int .i64 h)] (.tup [.agg [.d (.c (.int .i64 w)), .d (.c (.int .i64 h)), .sl 0 3 0 n], .d (.c (.int .i64 0))]) (.row 3 (List.replicate n (rgb 0 0 0))) := by
  refine GivO.of mixed c21 (Nat.le_of_ble_eq_true rfl) ?_
  have hp2 : (w : Int) * (h : Int) = n := by rw [← hp, Int.natCast_mul]
  simp -dsimp -implicitDefEqProofs (disch := first | omega | (simp only [List.length_append, List.length_cons, List.length_nil, List.length_take, List.length_drop]; omega)) only [a21, ↓aPre, aPost, oneW, allOne, retV, retVA, ↓reduceIte, reduceCtorEq, Nat.reduceAdd, Nat.reduceSub, Nat.reduceMul, Nat.reduceLT, Nat.reduceLeDiff, Nat.reduceEqDiff, Nat.reduceDiv, Nat.reduceMod, Nat.reducePow, Int.reduceAdd, Int.reduceSub, Int.reduceMul, Int.reduceLT, Int.reduceLE, Int.reduceEq, Int.reduceNe, Int.reducePow, Int.reduceToNat, Int.reduceNeg]
  refine call_giv (fits_t hw hh hp hn).1 ?_
  simp -dsimp -implicitDefEqProofs (disch := first | omega | (simp only [List.length_append, List.length_cons, List.length_nil, List.length_take, List.length_drop]; omega)) only [hp2, ↓aPre, aPost, oneW, allOne, retV, retVA, ↓reduceIte, reduceCtorEq, Nat.reduceAdd, Nat.reduceSub, Nat.reduceMul, Nat.reduceLT, Nat.reduceLeDiff, Nat.reduceEqDiff, Nat.reduceDiv, Nat.reduceMod, Nat.reducePow, Int.reduceAdd, Int.reduceSub, Int.reduceMul, Int.reduceLT, Int.reduceLE, Int.reduceEq, Int.reduceNe, Int.reducePow, Int.reduceToNat, Int.reduceNeg]
  exact own_of 16 _ _ (by decide) rfl (by simp -dsimp -implicitDefEqProofs (disch := first | omega | (simp only [List.length_append, List.length_cons, List.length_nil, List.length_take, List.length_drop]; omega)) only [rgb, ↓aPre, aPost, oneW, allOne, retV, retVA, ↓reduceIte, reduceCtorEq, Nat.reduceAdd, Nat.reduceSub, Nat.reduceMul, Nat.reduceLT, Nat.reduceLeDiff, Nat.reduceEqDiff, Nat.reduceDiv, Nat.reduceMod, Nat.reducePow, Int.reduceAdd, Int.reduceSub, Int.reduceMul, Int.reduceLT, Int.reduceLE, Int.reduceEq, Int.reduceNe, Int.reducePow, Int.reduceToNat, Int.reduceNeg]) rfl ⟨rfl, rfl⟩
theorem new_f {w h : Int} (hf : ¬ fitP w h) (hw : -9223372036854775808 ≤ w ∧ w ≤ 9223372036854775807) (hh : -9223372036854775808 ≤ h ∧ h ≤ 9223372036854775807) : Giv Try.prog 21 [.c (.int .i64 w), .c (.int .i64 h)] (retV [.agg [.c (.int .i64 0), .c (.int .i64 0), .lst 3 []], .c (.int .i64 1)]) := by
  refine Giv.of mixed c21 (Nat.le_of_ble_eq_true rfl) ?_
  simp -dsimp -implicitDefEqProofs (disch := first | omega | (simp only [List.length_append, List.length_cons, List.length_nil, List.length_take, List.length_drop]; omega)) only [a21, ↓aPre, aPost, oneW, allOne, retV, retVA, ↓reduceIte, reduceCtorEq, Nat.reduceAdd, Nat.reduceSub, Nat.reduceMul, Nat.reduceLT, Nat.reduceLeDiff, Nat.reduceEqDiff, Nat.reduceDiv, Nat.reduceMod, Nat.reducePow, Int.reduceAdd, Int.reduceSub, Int.reduceMul, Int.reduceLT, Int.reduceLE, Int.reduceEq, Int.reduceNe, Int.reducePow, Int.reduceToNat, Int.reduceNeg]
  refine call_giv (fits_f hf hw hh).1 ?_
  simp -dsimp -implicitDefEqProofs (disch := first | omega | (simp only [List.length_append, List.length_cons, List.length_nil, List.length_take, List.length_drop]; omega)) only [↓aPre, aPost, oneW, allOne, retV, retVA, ↓reduceIte, reduceCtorEq, Nat.reduceAdd, Nat.reduceSub, Nat.reduceMul, Nat.reduceLT, Nat.reduceLeDiff, Nat.reduceEqDiff, Nat.reduceDiv, Nat.reduceMod, Nat.reducePow, Int.reduceAdd, Int.reduceSub, Int.reduceMul, Int.reduceLT, Int.reduceLE, Int.reduceEq, Int.reduceNe, Int.reducePow, Int.reduceToNat, Int.reduceNeg]
  exact post_le (by repeat (first | exact leD.nil | exact leE.refl _ | exact leE.nil _ | refine leD.cons ?_ ?_ | refine leE.agg ?_))

/-- what the pixels are, and the lot of them as a row -/
structure Pics (W H n p : Nat) (bits ph : Int) (L X : List Int) (E R G B : Nat → Int) : Prop where
  w1 : W ≤ 4194304
  h1 : H ≤ 4194304
  wh : W * H = n
  n1 : n ≤ 4194304
  p1 : 1 ≤ p
  p8 : p ≤ 8
  len : L.length = n * p
  l1 : L.length ≤ 100000000
  x1 : X.length ≤ 100000000
  hb : -9223372036854775808 ≤ bits ∧ bits ≤ 9223372036854775807
  eb : ∀ i, 0 ≤ E i ∧ E i ≤ 9
  px : ∀ i, i < n → Giv Try.prog 11 (pxA ((L.drop (i * p)).take p) bits ph X) (retV [rgb (R i) (G i) (B i), .c (.int .i64 (E i))])
def imgD (W H p : Nat) (bits ph : Int) (L : List Int) (Z : List D) : D := .agg [.c (.int .i64 W), .c (.int .i64 H), .c (.int .i64 p), .c (.int .i64 bits), .c (.int .u64 ph), .lst 1 (li .u32 L), .lst 3 Z]
def invF (R G B : Nat → Int) (k : Nat) (i : Nat) : D := if i < k then rgb (R i) (G i) (B i) else rgb 0 0 0
theorem pic_giv {W H n p : Nat} {bits ph : Int} {L X : List Int} {E R G B : Nat → Int} (Z : List D) (P : Pics W H n p bits ph L X E R G B) (hE : ∀ i, i < n → E i = 0) : GivO Try.prog 15 [imgD W H p bits ph L Z, .lst 1 (li .u64 X)] (.tup [.agg [.d (.c (.int .i64 W)), .d (.c (.int .i64 H)), .sl 0 3 0 n], .d (.c (.int .i64 0))]) (.row 3 (tabD (fun i => rgb (R i) (G i) (B i)) n)) := by
  refine GivO.of mixed c15 (Nat.le_of_ble_eq_true rfl) ?_
  have hp2 : (W : Int) * (H : Int) = n := by rw [← P.wh, Int.natCast_mul]
  have hnp : (n : Int) * (p : Int) = (L.length : Int) := by rw [P.len, Int.natCast_mul]
  have hw := P.w1
  have hh := P.h1
  have hn := P.n1
  have h1 := P.p1
  have h8 := P.p8
  have hl := P.l1
  have hb := P.hb
  have hlen := P.len
  have q1 : ¬ (p : Int) < 1 := by omega
  have q2 : ¬ (p : Int) > 8 := by omega
  simp -dsimp -implicitDefEqProofs (disch := first | omega | (simp only [List.length_append, List.length_cons, List.length_nil, List.length_take, List.length_drop]; omega)) only [a15, imgD, ↓aPre, aPost, oneW, allOne, retV, retVA, ↓reduceIte, reduceCtorEq, Nat.reduceAdd, Nat.reduceSub, Nat.reduceMul, Nat.reduceLT, Nat.reduceLeDiff, Nat.reduceEqDiff, Nat.reduceDiv, Nat.reduceMod, Nat.reducePow, Int.reduceAdd, Int.reduceSub, Int.reduceMul, Int.reduceLT, Int.reduceLE, Int.reduceEq, Int.reduceNe, Int.reducePow, Int.reduceToNat, Int.reduceNeg]
  refine call_own (new_t P.w1 P.h1 P.wh P.n1) ?_
  simp -dsimp -implicitDefEqProofs (disch := first | omega | (simp only [List.length_append, List.length_cons, List.length_nil, List.length_take, List.length_drop]; omega)) only [q1, q2, hnp, AV.ren, Ob.ren, ↓aPre, aPost, oneW, allOne, retV, retVA, ↓reduceIte, reduceCtorEq, Nat.reduceAdd, Nat.reduceSub, Nat.reduceMul, Nat.reduceLT, Nat.reduceLeDiff, Nat.reduceEqDiff, Nat.reduceDiv, Nat.reduceMod, Nat.reducePow, Int.reduceAdd, Int.reduceSub, Int.reduceMul, Int.reduceLT, Int.reduceLE, Int.reduceEq, Int.reduceNe, Int.reducePow, Int.reduceToNat, Int.reduceNeg]
  have tl0 : (tabD (invF R G B 0) n).length = n := tabD_len _ _
  refine loop_of (fun s => ∃ (k : Nat), k ≤ n ∧ s.tm 1 = .d (.lst 1 (li .u64 X)) ∧ s.tm 2 = .ptr 2 0 ∧ s.tm 4 = .ptr 4 0 ∧ s.tm 6 = .ptr 6 0 ∧ s.tm 46 = .d (.c (.int .i64 n)) ∧ s.tm 47 = .d (.c (.int .i64 k)) ∧ s.hp 2 = some (.box [.d (.c (.int .i64 W)), .d (.c (.int .i64 H)), .d (.c (.int .i64 p)), .d (.c (.int .i64 bits)), .d (.c (.int .u64 ph)), .d (.lst 1 (li .u32 L)), .d (.lst 3 Z)]) ∧ s.hp 4 = some (.box [.d (.c (.int .i64 0)), .d (.c (.int .i64 0)), .d (.c (.slice none 0 0))]) ∧ s.hp 6 = some (.box [.d (.c (.int .i64 W)), .d (.c (.int .i64 H)), .sl 16 3 0 n]) ∧ s.hp 16 = some (.row 3 (tabD (invF R G B k) n))) (fun s => n - (avN (s.tm 47)).toNat) ?_ ?_
  · refine ⟨0, Nat.zero_le _, ?_⟩
    have e0 : List.replicate n (rgb 0 0 0) = tabD (invF R G B 0) n := rep_tabD _ _
    simp -dsimp -implicitDefEqProofs (disch := first | omega | (simp only [List.length_append, List.length_cons, List.length_nil, List.length_take, List.length_drop]; omega)) only [e0, Int.natCast_zero, ↓aPre, aPost, oneW, allOne, retV, retVA, ↓reduceIte, reduceCtorEq, Nat.reduceAdd, Nat.reduceSub, Nat.reduceMul, Nat.reduceLT, Nat.reduceLeDiff, Nat.reduceEqDiff, Nat.reduceDiv, Nat.reduceMod, Nat.reducePow, Int.reduceAdd, Int.reduceSub, Int.reduceMul, Int.reduceLT, Int.reduceLE, Int.reduceEq, Int.reduceNe, Int.reducePow, Int.reduceToNat, Int.reduceNeg]
  rintro s ⟨k, hk, hs⟩
  by_cases hlt : k < n
  · have hpx := P.px k (by omega)
    have heb := P.eb k
    rw [pxA] at hpx
    obtain ⟨a, ha⟩ : ∃ a, a = k * p := ⟨_, rfl⟩
    have ha1 : (k : Int) * (p : Int) = a := by rw [ha, Int.natCast_mul]
    have ha2 : ((k : Int) + 1) * (p : Int) = ((a + p : Nat) : Int) := by rw [Int.add_mul, ha1, Int.one_mul, Int.natCast_add]
    have ha3 : a + p ≤ L.length := by
      have := Nat.mul_le_mul_right p (show k + 1 ≤ n by omega)
      rw [Nat.succ_mul] at this
      omega
    have tl := tabD_len (invF R G B k) n
    have tg : (tabD (invF R G B k) n).getD k default = .agg [.c (.int .u8 0), .c (.int .u8 0), .c (.int .u8 0)] := by rw [tabD_get _ (by omega), invF, if_neg (Nat.lt_irrefl k), rgb]
    have hn0 : n ≤ L.length := by rw [P.len]; exact Nat.le_mul_of_pos_right n (by omega)
    rw [← ha] at hpx
    have hap : ((a : Int) + (p : Int)).toNat - a = p := by omega
    have es : (tabD (invF R G B k) n).set k (rgb (R k) (G k) (B k)) = tabD (invF R G B (k + 1)) n := by
      rw [tabD_set _ (by omega)]
      refine tabD_congr n fun j _ => ?_
      simp only [invF]
      by_cases c : j = k
      · rw [if_pos c, if_pos (by omega), c]
      · rw [if_neg c]
        by_cases d : j < k
        · rw [if_pos d, if_pos (by omega)]
        · rw [if_neg d, if_neg (by omega)]
    have he := hE k hlt
    rw [he] at hpx
    simp -dsimp -implicitDefEqProofs (disch := first | omega | (simp only [List.length_append, List.length_cons, List.length_nil, List.length_take, List.length_drop]; omega)) only [hs, ha1, ha2, hap, ↓aPre, aPost, oneW, allOne, retV, retVA, ↓reduceIte, reduceCtorEq, Nat.reduceAdd, Nat.reduceSub, Nat.reduceMul, Nat.reduceLT, Nat.reduceLeDiff, Nat.reduceEqDiff, Nat.reduceDiv, Nat.reduceMod, Nat.reducePow, Int.reduceAdd, Int.reduceSub, Int.reduceMul, Int.reduceLT, Int.reduceLE, Int.reduceEq, Int.reduceNe, Int.reducePow, Int.reduceToNat, Int.reduceNeg]
    refine ⟨?_, ?_⟩
    all_goals
      refine call_giv hpx ?_
      simp -dsimp -implicitDefEqProofs (disch := first | omega | (simp only [List.length_append, List.length_cons, List.length_nil, List.length_take, List.length_drop]; omega)) only [hs, rgb, tl, tg, ↓aPre, aPost, oneW, allOne, retV, retVA, ↓reduceIte, reduceCtorEq, Nat.reduceAdd, Nat.reduceSub, Nat.reduceMul, Nat.reduceLT, Nat.reduceLeDiff, Nat.reduceEqDiff, Nat.reduceDiv, Nat.reduceMod, Nat.reducePow, Int.reduceAdd, Int.reduceSub, Int.reduceMul, Int.reduceLT, Int.reduceLE, Int.reduceEq, Int.reduceNe, Int.reducePow, Int.reduceToNat, Int.reduceNeg]
      have es2 := es
      rw [rgb] at es2
      refine round_of ⟨k + 1, by omega, ?_⟩ ?_
      · simp -dsimp -implicitDefEqProofs (disch := first | omega | (simp only [List.length_append, List.length_cons, List.length_nil, List.length_take, List.length_drop]; omega)) only [hs, es2, ↓aPre, aPost, oneW, allOne, retV, retVA, ↓reduceIte, reduceCtorEq, Nat.reduceAdd, Nat.reduceSub, Nat.reduceMul, Nat.reduceLT, Nat.reduceLeDiff, Nat.reduceEqDiff, Nat.reduceDiv, Nat.reduceMod, Nat.reducePow, Int.reduceAdd, Int.reduceSub, Int.reduceMul, Int.reduceLT, Int.reduceLE, Int.reduceEq, Int.reduceNe, Int.reducePow, Int.reduceToNat, Int.reduceNeg]
      · simp -dsimp -implicitDefEqProofs (disch := first | omega | (simp only [List.length_append, List.length_cons, List.length_nil, List.length_take, List.length_drop]; omega)) only [hs, ↓aPre, aPost, oneW, allOne, retV, retVA, ↓reduceIte, reduceCtorEq, Nat.reduceAdd, Nat.reduceSub, Nat.reduceMul, Nat.reduceLT, Nat.reduceLeDiff, Nat.reduceEqDiff, Nat.reduceDiv, Nat.reduceMod, Nat.reducePow, Int.reduceAdd, Int.reduceSub, Int.reduceMul, Int.reduceLT, Int.reduceLE, Int.reduceEq, Int.reduceNe, Int.reducePow, Int.reduceToNat, Int.reduceNeg]
        omega
  · obtain rfl : k = n := by omega
    have ee : tabD (invF R G B k) k = tabD (fun i => rgb (R i) (G i) (B i)) k := tabD_congr k fun i hi => by simp only [invF]; rw [if_pos hi]
    rw [ee] at hs
    simp -dsimp -implicitDefEqProofs (disch := first | omega | (simp only [List.length_append, List.length_cons, List.length_nil, List.length_take, List.length_drop]; omega)) only [hs, ↓aPre, aPost, oneW, allOne, retV, retVA, ↓reduceIte, reduceCtorEq, Nat.reduceAdd, Nat.reduceSub, Nat.reduceMul, Nat.reduceLT, Nat.reduceLeDiff, Nat.reduceEqDiff, Nat.reduceDiv, Nat.reduceMod, Nat.reducePow, Int.reduceAdd, Int.reduceSub, Int.reduceMul, Int.reduceLT, Int.reduceLE, Int.reduceEq, Int.reduceNe, Int.reducePow, Int.reduceToNat, Int.reduceNeg]
    exact own_of 16 _ _ (by decide) rfl (by simp -dsimp -implicitDefEqProofs (disch := first | omega | (simp only [List.length_append, List.length_cons, List.length_nil, List.length_take, List.length_drop]; omega)) only [hs, ↓aPre, aPost, oneW, allOne, retV, retVA, ↓reduceIte, reduceCtorEq, Nat.reduceAdd, Nat.reduceSub, Nat.reduceMul, Nat.reduceLT, Nat.reduceLeDiff, Nat.reduceEqDiff, Nat.reduceDiv, Nat.reduceMod, Nat.reducePow, Int.reduceAdd, Int.reduceSub, Int.reduceMul, Int.reduceLT, Int.reduceLE, Int.reduceEq, Int.reduceNe, Int.reducePow, Int.reduceToNat, Int.reduceNeg]) rfl ⟨rfl, rfl⟩
theorem picx_giv {W H n p : Nat} {bits ph : Int} {L X : List Int} {E R G B : Nat → Int} (Z : List D) (P : Pics W H n p bits ph L X E R G B) (m : Nat) (hm : m < n) (hE : ∀ i, i < m → E i = 0) (hx : E m ≠ 0) : Giv Try.prog 15 [imgD W H p bits ph L Z, .lst 1 (li .u64 X)] (retV [.agg [.c (.int .i64 0), .c (.int .i64 0), .lst 3 []], .c (.int .i64 (E m))]) := by
  refine Giv.of mixed c15 (Nat.le_of_ble_eq_true rfl) ?_
  have hp2 : (W : Int) * (H : Int) = n := by rw [← P.wh, Int.natCast_mul]
  have hnp : (n : Int) * (p : Int) = (L.length : Int) := by rw [P.len, Int.natCast_mul]
  have hw := P.w1
  have hh := P.h1
  have hn := P.n1
  have h1 := P.p1
  have h8 := P.p8
  have hl := P.l1
  have hb := P.hb
  have hlen := P.len
  have q1 : ¬ (p : Int) < 1 := by omega
  have q2 : ¬ (p : Int) > 8 := by omega
  simp -dsimp -implicitDefEqProofs (disch := first | omega | (simp only [List.length_append, List.length_cons, List.length_nil, List.length_take, List.length_drop]; omega)) only [a15, imgD, ↓aPre, aPost, oneW, allOne, retV, retVA, ↓reduceIte, reduceCtorEq, Nat.reduceAdd, Nat.reduceSub, Nat.reduceMul, Nat.reduceLT, Nat.reduceLeDiff, Nat.reduceEqDiff, Nat.reduceDiv, Nat.reduceMod, Nat.reducePow, Int.reduceAdd, Int.reduceSub, Int.reduceMul, Int.reduceLT, Int.reduceLE, Int.reduceEq, Int.reduceNe, Int.reducePow, Int.reduceToNat, Int.reduceNeg]
  refine call_own (new_t P.w1 P.h1 P.wh P.n1) ?_
  simp -dsimp -implicitDefEqProofs (disch := first | omega | (simp only [List.length_append, List.length_cons, List.length_nil, List.length_take, List.length_drop]; omega)) only [q1, q2, hnp, AV.ren, Ob.ren, ↓aPre, aPost, oneW, allOne, retV, retVA, ↓reduceIte, reduceCtorEq, Nat.reduceAdd, Nat.reduceSub, Nat.reduceMul, Nat.reduceLT, Nat.reduceLeDiff, Nat.reduceEqDiff, Nat.reduceDiv, Nat.reduceMod, Nat.reducePow, Int.reduceAdd, Int.reduceSub, Int.reduceMul, Int.reduceLT, Int.reduceLE, Int.reduceEq, Int.reduceNe, Int.reducePow, Int.reduceToNat, Int.reduceNeg]
  have tl0 : (tabD (invF R G B 0) n).length = n := tabD_len _ _
  refine loop_of (fun s => ∃ (k : Nat), k ≤ m ∧ s.tm 1 = .d (.lst 1 (li .u64 X)) ∧ s.tm 2 = .ptr 2 0 ∧ s.tm 4 = .ptr 4 0 ∧ s.tm 6 = .ptr 6 0 ∧ s.tm 46 = .d (.c (.int .i64 n)) ∧ s.tm 47 = .d (.c (.int .i64 k)) ∧ s.hp 2 = some (.box [.d (.c (.int .i64 W)), .d (.c (.int .i64 H)), .d (.c (.int .i64 p)), .d (.c (.int .i64 bits)), .d (.c (.int .u64 ph)), .d (.lst 1 (li .u32 L)), .d (.lst 3 Z)]) ∧ s.hp 4 = some (.box [.d (.c (.int .i64 0)), .d (.c (.int .i64 0)), .d (.c (.slice none 0 0))]) ∧ s.hp 6 = some (.box [.d (.c (.int .i64 W)), .d (.c (.int .i64 H)), .sl 16 3 0 n]) ∧ s.hp 16 = some (.row 3 (tabD (invF R G B k) n))) (fun s => n - (avN (s.tm 47)).toNat) ?_ ?_
  · refine ⟨0, Nat.zero_le _, ?_⟩
    have e0 : List.replicate n (rgb 0 0 0) = tabD (invF R G B 0) n := rep_tabD _ _
    simp -dsimp -implicitDefEqProofs (disch := first | omega | (simp only [List.length_append, List.length_cons, List.length_nil, List.length_take, List.length_drop]; omega)) only [e0, Int.natCast_zero, ↓aPre, aPost, oneW, allOne, retV, retVA, ↓reduceIte, reduceCtorEq, Nat.reduceAdd, Nat.reduceSub, Nat.reduceMul, Nat.reduceLT, Nat.reduceLeDiff, Nat.reduceEqDiff, Nat.reduceDiv, Nat.reduceMod, Nat.reducePow, Int.reduceAdd, Int.reduceSub, Int.reduceMul, Int.reduceLT, Int.reduceLE, Int.reduceEq, Int.reduceNe, Int.reducePow, Int.reduceToNat, Int.reduceNeg]
  rintro s ⟨k, hk, hs⟩
  have hpx := P.px k (by omega)
  have heb := P.eb k
  rw [pxA] at hpx
  obtain ⟨a, ha⟩ : ∃ a, a = k * p := ⟨_, rfl⟩
  have ha1 : (k : Int) * (p : Int) = a := by rw [ha, Int.natCast_mul]
  have ha2 : ((k : Int) + 1) * (p : Int) = ((a + p : Nat) : Int) := by rw [Int.add_mul, ha1, Int.one_mul, Int.natCast_add]
  have ha3 : a + p ≤ L.length := by
    have := Nat.mul_le_mul_right p (show k + 1 ≤ n by omega)
    rw [Nat.succ_mul] at this
    omega
  have tl := tabD_len (invF R G B k) n
  have tg : (tabD (invF R G B k) n).getD k default = .agg [.c (.int .u8 0), .c (.int .u8 0), .c (.int .u8 0)] := by rw [tabD_get _ (by omega), invF, if_neg (Nat.lt_irrefl k), rgb]
  have hn0 : n ≤ L.length := by rw [P.len]; exact Nat.le_mul_of_pos_right n (by omega)
  rw [← ha] at hpx
  have hap : ((a : Int) + (p : Int)).toNat - a = p := by omega
  have es : (tabD (invF R G B k) n).set k (rgb (R k) (G k) (B k)) = tabD (invF R G B (k + 1)) n := by
    rw [tabD_set _ (by omega)]
    refine tabD_congr n fun j _ => ?_
    simp only [invF]
    by_cases c : j = k
    · rw [if_pos c, if_pos (by omega), c]
    · rw [if_neg c]
      by_cases d : j < k
      · rw [if_pos d, if_pos (by omega)]
      · rw [if_neg d, if_neg (by omega)]
  by_cases hlt : k < m
  · have he := hE k hlt
    rw [he] at hpx
    simp -dsimp -implicitDefEqProofs (disch := first | omega | (simp only [List.length_append, List.length_cons, List.length_nil, List.length_take, List.length_drop]; omega)) only [hs, ha1, ha2, hap, ↓aPre, aPost, oneW, allOne, retV, retVA, ↓reduceIte, reduceCtorEq, Nat.reduceAdd, Nat.reduceSub, Nat.reduceMul, Nat.reduceLT, Nat.reduceLeDiff, Nat.reduceEqDiff, Nat.reduceDiv, Nat.reduceMod, Nat.reducePow, Int.reduceAdd, Int.reduceSub, Int.reduceMul, Int.reduceLT, Int.reduceLE, Int.reduceEq, Int.reduceNe, Int.reducePow, Int.reduceToNat, Int.reduceNeg]
    refine ⟨?_, ?_⟩
    all_goals
      refine call_giv hpx ?_
      simp -dsimp -implicitDefEqProofs (disch := first | omega | (simp only [List.length_append, List.length_cons, List.length_nil, List.length_take, List.length_drop]; omega)) only [hs, rgb, tl, tg, ↓aPre, aPost, oneW, allOne, retV, retVA, ↓reduceIte, reduceCtorEq, Nat.reduceAdd, Nat.reduceSub, Nat.reduceMul, Nat.reduceLT, Nat.reduceLeDiff, Nat.reduceEqDiff, Nat.reduceDiv, Nat.reduceMod, Nat.reducePow, Int.reduceAdd, Int.reduceSub, Int.reduceMul, Int.reduceLT, Int.reduceLE, Int.reduceEq, Int.reduceNe, Int.reducePow, Int.reduceToNat, Int.reduceNeg]
      have es2 := es
      rw [rgb] at es2
      refine round_of ⟨k + 1, by omega, ?_⟩ ?_
      · simp -dsimp -implicitDefEqProofs (disch := first | omega | (simp only [List.length_append, List.length_cons, List.length_nil, List.length_take, List.length_drop]; omega)) only [hs, es2, ↓aPre, aPost, oneW, allOne, retV, retVA, ↓reduceIte, reduceCtorEq, Nat.reduceAdd, Nat.reduceSub, Nat.reduceMul, Nat.reduceLT, Nat.reduceLeDiff, Nat.reduceEqDiff, Nat.reduceDiv, Nat.reduceMod, Nat.reducePow, Int.reduceAdd, Int.reduceSub, Int.reduceMul, Int.reduceLT, Int.reduceLE, Int.reduceEq, Int.reduceNe, Int.reducePow, Int.reduceToNat, Int.reduceNeg]
      · simp -dsimp -implicitDefEqProofs (disch := first | omega | (simp only [List.length_append, List.length_cons, List.length_nil, List.length_take, List.length_drop]; omega)) only [hs, ↓aPre, aPost, oneW, allOne, retV, retVA, ↓reduceIte, reduceCtorEq, Nat.reduceAdd, Nat.reduceSub, Nat.reduceMul, Nat.reduceLT, Nat.reduceLeDiff, Nat.reduceEqDiff, Nat.reduceDiv, Nat.reduceMod, Nat.reducePow, Int.reduceAdd, Int.reduceSub, Int.reduceMul, Int.reduceLT, Int.reduceLE, Int.reduceEq, Int.reduceNe, Int.reducePow, Int.reduceToNat, Int.reduceNeg]
        omega
  · obtain rfl : k = m := by omega
    obtain ⟨ek, hek⟩ : ∃ ek, ek = E k := ⟨_, rfl⟩
    rw [← hek] at hpx heb hx ⊢
    have hx2 := ibne_t hx
    simp -dsimp -implicitDefEqProofs (disch := first | omega | (simp only [List.length_append, List.length_cons, List.length_nil, List.length_take, List.length_drop]; omega)) only [hs, ha1, ha2, hap, ↓aPre, aPost, oneW, allOne, retV, retVA, ↓reduceIte, reduceCtorEq, Nat.reduceAdd, Nat.reduceSub, Nat.reduceMul, Nat.reduceLT, Nat.reduceLeDiff, Nat.reduceEqDiff, Nat.reduceDiv, Nat.reduceMod, Nat.reducePow, Int.reduceAdd, Int.reduceSub, Int.reduceMul, Int.reduceLT, Int.reduceLE, Int.reduceEq, Int.reduceNe, Int.reducePow, Int.reduceToNat, Int.reduceNeg]
    refine ⟨?_, ?_⟩
    all_goals
      refine call_giv hpx ?_
      simp -dsimp -implicitDefEqProofs (disch := first | omega | (simp only [List.length_append, List.length_cons, List.length_nil, List.length_take, List.length_drop]; omega)) only [hs, rgb, tl, hx2, ↓aPre, aPost, oneW, allOne, retV, retVA, ↓reduceIte, reduceCtorEq, Nat.reduceAdd, Nat.reduceSub, Nat.reduceMul, Nat.reduceLT, Nat.reduceLeDiff, Nat.reduceEqDiff, Nat.reduceDiv, Nat.reduceMod, Nat.reducePow, Int.reduceAdd, Int.reduceSub, Int.reduceMul, Int.reduceLT, Int.reduceLE, Int.reduceEq, Int.reduceNe, Int.reducePow, Int.reduceToNat, Int.reduceNeg]
      exact post_le (by repeat (first | exact leD.nil | exact leE.refl _ | exact leE.nil _ | refine leD.cons ?_ ?_ | refine leE.agg ?_))
theorem pic_bad {W H p : Int} {bits ph : Int} {L X : List Int} (Z : List D) (hW : -9223372036854775808 ≤ W ∧ W ≤ 9223372036854775807) (hH : -9223372036854775808 ≤ H ∧ H ≤ 9223372036854775807) (hl : L.length ≤ 100000000) (hc : ¬ (fitP W H ∧ 1 ≤ p ∧ p ≤ 8 ∧ (L.length : Int) = W * H * p)) : Giv Try.prog 15 [.agg [.c (.int .i64 W), .c (.int .i64 H), .c (.int .i64 p), .c (.int .i64 bits), .c (.int .u64 ph), .lst 1 (li .u32 L), .lst 3 Z], .lst 1 (li .u64 X)] (retV [.agg [.c (.int .i64 0), .c (.int .i64 0), .lst 3 []], .c (.int .i64 1)]) := by
  refine Giv.of mixed c15 (Nat.le_of_ble_eq_true rfl) ?_
  by_cases hf : fitP W H
  rotate_left
  · simp -dsimp -implicitDefEqProofs (disch := first | omega | (simp only [List.length_append, List.length_cons, List.length_nil, List.length_take, List.length_drop]; omega)) only [a15, ↓aPre, aPost, oneW, allOne, retV, retVA, ↓reduceIte, reduceCtorEq, Nat.reduceAdd, Nat.reduceSub, Nat.reduceMul, Nat.reduceLT, Nat.reduceLeDiff, Nat.reduceEqDiff, Nat.reduceDiv, Nat.reduceMod, Nat.reducePow, Int.reduceAdd, Int.reduceSub, Int.reduceMul, Int.reduceLT, Int.reduceLE, Int.reduceEq, Int.reduceNe, Int.reducePow, Int.reduceToNat, Int.reduceNeg]
    refine call_giv (new_f hf hW hH) ?_
    simp -dsimp -implicitDefEqProofs (disch := first | omega | (simp only [List.length_append, List.length_cons, List.length_nil, List.length_take, List.length_drop]; omega)) only [↓aPre, aPost, oneW, allOne, retV, retVA, ↓reduceIte, reduceCtorEq, Nat.reduceAdd, Nat.reduceSub, Nat.reduceMul, Nat.reduceLT, Nat.reduceLeDiff, Nat.reduceEqDiff, Nat.reduceDiv, Nat.reduceMod, Nat.reducePow, Int.reduceAdd, Int.reduceSub, Int.reduceMul, Int.reduceLT, Int.reduceLE, Int.reduceEq, Int.reduceNe, Int.reducePow, Int.reduceToNat, Int.reduceNeg]
    exact post_le (by repeat (first | exact leD.nil | exact leE.refl _ | exact leE.nil _ | refine leD.cons ?_ ?_ | refine leE.agg ?_))
  obtain ⟨f1, f2, f3, f4, f5⟩ := hf
  obtain ⟨W, rfl⟩ := Int.eq_ofNat_of_zero_le f1
  obtain ⟨H, rfl⟩ := Int.eq_ofNat_of_zero_le f2
  obtain ⟨n, hn⟩ : ∃ n : Nat, W * H = n := ⟨_, rfl⟩
  have hp2 : (W : Int) * (H : Int) = n := by rw [← hn, Int.natCast_mul]
  rw [hp2] at f5
  by_cases hp1 : p < 1
  · simp -dsimp -implicitDefEqProofs (disch := first | omega | (simp only [List.length_append, List.length_cons, List.length_nil, List.length_take, List.length_drop]; omega)) only [a15, ↓aPre, aPost, oneW, allOne, retV, retVA, ↓reduceIte, reduceCtorEq, Nat.reduceAdd, Nat.reduceSub, Nat.reduceMul, Nat.reduceLT, Nat.reduceLeDiff, Nat.reduceEqDiff, Nat.reduceDiv, Nat.reduceMod, Nat.reducePow, Int.reduceAdd, Int.reduceSub, Int.reduceMul, Int.reduceLT, Int.reduceLE, Int.reduceEq, Int.reduceNe, Int.reducePow, Int.reduceToNat, Int.reduceNeg]
    refine call_own (new_t (by omega) (by omega) hn (by omega)) ?_
    simp -dsimp -implicitDefEqProofs (disch := first | omega | (simp only [List.length_append, List.length_cons, List.length_nil, List.length_take, List.length_drop]; omega)) only [AV.ren, Ob.ren, hp1, ↓aPre, aPost, oneW, allOne, retV, retVA, ↓reduceIte, reduceCtorEq, Nat.reduceAdd, Nat.reduceSub, Nat.reduceMul, Nat.reduceLT, Nat.reduceLeDiff, Nat.reduceEqDiff, Nat.reduceDiv, Nat.reduceMod, Nat.reducePow, Int.reduceAdd, Int.reduceSub, Int.reduceMul, Int.reduceLT, Int.reduceLE, Int.reduceEq, Int.reduceNe, Int.reducePow, Int.reduceToNat, Int.reduceNeg]
    exact post_le (by repeat (first | exact leD.nil | exact leE.refl _ | exact leE.nil _ | refine leD.cons ?_ ?_ | refine leE.agg ?_))
  by_cases hp8 : p > 8
  · simp -dsimp -implicitDefEqProofs (disch := first | omega | (simp only [List.length_append, List.length_cons, List.length_nil, List.length_take, List.length_drop]; omega)) only [a15, ↓aPre, aPost, oneW, allOne, retV, retVA, ↓reduceIte, reduceCtorEq, Nat.reduceAdd, Nat.reduceSub, Nat.reduceMul, Nat.reduceLT, Nat.reduceLeDiff, Nat.reduceEqDiff, Nat.reduceDiv, Nat.reduceMod, Nat.reducePow, Int.reduceAdd, Int.reduceSub, Int.reduceMul, Int.reduceLT, Int.reduceLE, Int.reduceEq, Int.reduceNe, Int.reducePow, Int.reduceToNat, Int.reduceNeg]
    refine call_own (new_t (by omega) (by omega) hn (by omega)) ?_
    simp -dsimp -implicitDefEqProofs (disch := first | omega | (simp only [List.length_append, List.length_cons, List.length_nil, List.length_take, List.length_drop]; omega)) only [AV.ren, Ob.ren, hp1, hp8, ↓aPre, aPost, oneW, allOne, retV, retVA, ↓reduceIte, reduceCtorEq, Nat.reduceAdd, Nat.reduceSub, Nat.reduceMul, Nat.reduceLT, Nat.reduceLeDiff, Nat.reduceEqDiff, Nat.reduceDiv, Nat.reduceMod, Nat.reducePow, Int.reduceAdd, Int.reduceSub, Int.reduceMul, Int.reduceLT, Int.reduceLE, Int.reduceEq, Int.reduceNe, Int.reducePow, Int.reduceToNat, Int.reduceNeg]
    exact post_le (by repeat (first | exact leD.nil | exact leE.refl _ | exact leE.nil _ | refine leD.cons ?_ ?_ | refine leE.agg ?_))
  obtain ⟨p, rfl⟩ := Int.eq_ofNat_of_zero_le (show 0 ≤ p by omega)
  obtain ⟨q, hq⟩ : ∃ q : Nat, n * p = q := ⟨_, rfl⟩
  have hq2 : (n : Int) * (p : Int) = q := by rw [← hq, Int.natCast_mul]
  have hqb : q ≤ n * 8 := by rw [← hq]; exact Nat.mul_le_mul_left n (by omega)
  have hne : ¬ (L.length : Int) = q := fun e => hc ⟨⟨f1, f2, f3, f4, by rw [hp2]; exact f5⟩, by omega, by omega, by rw [hp2, hq2]; exact e⟩
  simp -dsimp -implicitDefEqProofs (disch := first | omega | (simp only [List.length_append, List.length_cons, List.length_nil, List.length_take, List.length_drop]; omega)) only [a15, ↓aPre, aPost, oneW, allOne, retV, retVA, ↓reduceIte, reduceCtorEq, Nat.reduceAdd, Nat.reduceSub, Nat.reduceMul, Nat.reduceLT, Nat.reduceLeDiff, Nat.reduceEqDiff, Nat.reduceDiv, Nat.reduceMod, Nat.reducePow, Int.reduceAdd, Int.reduceSub, Int.reduceMul, Int.reduceLT, Int.reduceLE, Int.reduceEq, Int.reduceNe, Int.reducePow, Int.reduceToNat, Int.reduceNeg]
  refine call_own (new_t (by omega) (by omega) hn (by omega)) ?_
  simp -dsimp -implicitDefEqProofs (disch := first | omega | (simp only [List.length_append, List.length_cons, List.length_nil, List.length_take, List.length_drop]; omega)) only [AV.ren, Ob.ren, hp1, hp8, hq2, hne, ibne_t, ↓aPre, aPost, oneW, allOne, retV, retVA, ↓reduceIte, reduceCtorEq, Nat.reduceAdd, Nat.reduceSub, Nat.reduceMul, Nat.reduceLT, Nat.reduceLeDiff, Nat.reduceEqDiff, Nat.reduceDiv, Nat.reduceMod, Nat.reducePow, Int.reduceAdd, Int.reduceSub, Int.reduceMul, Int.reduceLT, Int.reduceLE, Int.reduceEq, Int.reduceNe, Int.reducePow, Int.reduceToNat, Int.reduceNeg]
  exact post_le (by repeat (first | exact leD.nil | exact leE.refl _ | exact leE.nil _ | refine leD.cons ?_ ?_ | refine leE.agg ?_))
theorem both_all {A : Nat → List D} (h : ∀ i, Both (A i) (A i) 11 12) : ∃ E R G B : Nat → Int, ∀ i, 0 ≤ E i ∧ E i ≤ 9 ∧ 0 ≤ R i ∧ R i ≤ 255 ∧ 0 ≤ G i ∧ G i ≤ 255 ∧ 0 ≤ B i ∧ B i ≤ 255 ∧ (E i ≠ 0 → R i = 0 ∧ G i = 0 ∧ B i = 0) ∧ Giv Try.prog 11 (A i) (retV [rgb (R i) (G i) (B i), .c (.int .i64 (E i))]) ∧ Giv Try.prog 12 (A i) (retV (rres (E i) (R i) (G i) (B i))) := by
  simp only [Both] at h
  obtain ⟨E, h⟩ := Classical.skolem.1 h
  obtain ⟨R, h⟩ := Classical.skolem.1 h
  obtain ⟨G, h⟩ := Classical.skolem.1 h
  obtain ⟨B, h⟩ := Classical.skolem.1 h
  exact ⟨E, R, G, B, h⟩
def rsD (l : List (Int × Int × List Int)) : List D := l.map fun y => .agg [.c (.int .u16 y.1), .c (.int .i64 y.2.1), .lst 1 (li .u64 y.2.2)]
theorem law_giv (W H p bits ph : Int) (cs : List Int) (Z : List D) (L : List Int) (less : Bool) (hW : -9223372036854775808 ≤ W ∧ W ≤ 9223372036854775807) (hH : -9223372036854775808 ≤ H ∧ H ≤ 9223372036854775807) (hp : -9223372036854775808 ≤ p ∧ p ≤ 9223372036854775807) (hbi : -9223372036854775808 ≤ bits ∧ bits ≤ 9223372036854775807) (hph : 0 ≤ ph ∧ ph ≤ 18446744073709551615) (hcs : cs.length ≤ 35184372088832) (hI : In 4294967296 cs) (hLl : L.length ≤ 35184372088832) (hIL : In 18446744073709551616 L) : Giv Try.prog 6 [.agg [.c (.int .i64 W), .c (.int .i64 H), .c (.int .i64 p), .c (.int .i64 bits), .c (.int .u64 ph), .lst 1 (li .u32 cs), .lst 3 Z], .agg [.lst 1 (li .u64 L), .c (.bool less)]] (.d (.c (.bool true))) := by
  refine Giv.of (out := [.c (.bool true)]) mixed c6 (Nat.le_of_ble_eq_true rfl) ?_
  simp -dsimp -implicitDefEqProofs (disch := first | omega | (simp only [List.length_append, List.length_cons, List.length_nil, List.length_take, List.length_drop]; omega)) only [a6, ↓aPre, aPost, oneW, allOne, retV, retVA, ↓reduceIte, reduceCtorEq, Nat.reduceAdd, Nat.reduceSub, Nat.reduceMul, Nat.reduceLT, Nat.reduceLeDiff, Nat.reduceEqDiff, Nat.reduceDiv, Nat.reduceMod, Nat.reducePow, Int.reduceAdd, Int.reduceSub, Int.reduceMul, Int.reduceLT, Int.reduceLE, Int.reduceEq, Int.reduceNe, Int.reducePow, Int.reduceToNat, Int.reduceNeg]
  refine call_giv lives_t ?_
  by_cases hb : cs.length > 600
  · have hb' : (cs.length : Int) > 600 := by omega
    simp -dsimp -implicitDefEqProofs (disch := first | omega | (simp only [List.length_append, List.length_cons, List.length_nil, List.length_take, List.length_drop]; omega)) only [hb', ↓aPre, aPost, oneW, allOne, retV, retVA, ↓reduceIte, reduceCtorEq, Nat.reduceAdd, Nat.reduceSub, Nat.reduceMul, Nat.reduceLT, Nat.reduceLeDiff, Nat.reduceEqDiff, Nat.reduceDiv, Nat.reduceMod, Nat.reducePow, Int.reduceAdd, Int.reduceSub, Int.reduceMul, Int.reduceLT, Int.reduceLE, Int.reduceEq, Int.reduceNe, Int.reducePow, Int.reduceToNat, Int.reduceNeg]
    refine call_giv lives_t ?_
    simp -dsimp -implicitDefEqProofs (disch := first | omega | (simp only [List.length_append, List.length_cons, List.length_nil, List.length_take, List.length_drop]; omega)) only [↓aPre, aPost, oneW, allOne, retV, retVA, ↓reduceIte, reduceCtorEq, Nat.reduceAdd, Nat.reduceSub, Nat.reduceMul, Nat.reduceLT, Nat.reduceLeDiff, Nat.reduceEqDiff, Nat.reduceDiv, Nat.reduceMod, Nat.reducePow, Int.reduceAdd, Int.reduceSub, Int.reduceMul, Int.reduceLT, Int.reduceLE, Int.reduceEq, Int.reduceNe, Int.reducePow, Int.reduceToNat, Int.reduceNeg]
    exact post_eq rfl
  have hb' : ¬ (cs.length : Int) > 600 := by omega
  by_cases hc : L.length > 300
  · have hc' : (L.length : Int) > 300 := by omega
    simp -dsimp -implicitDefEqProofs (disch := first | omega | (simp only [List.length_append, List.length_cons, List.length_nil, List.length_take, List.length_drop]; omega)) only [hb', hc', ↓aPre, aPost, oneW, allOne, retV, retVA, ↓reduceIte, reduceCtorEq, Nat.reduceAdd, Nat.reduceSub, Nat.reduceMul, Nat.reduceLT, Nat.reduceLeDiff, Nat.reduceEqDiff, Nat.reduceDiv, Nat.reduceMod, Nat.reducePow, Int.reduceAdd, Int.reduceSub, Int.reduceMul, Int.reduceLT, Int.reduceLE, Int.reduceEq, Int.reduceNe, Int.reducePow, Int.reduceToNat, Int.reduceNeg]
    refine call_giv lives_t ?_
    simp -dsimp -implicitDefEqProofs (disch := first | omega | (simp only [List.length_append, List.length_cons, List.length_nil, List.length_take, List.length_drop]; omega)) only [↓aPre, aPost, oneW, allOne, retV, retVA, ↓reduceIte, reduceCtorEq, Nat.reduceAdd, Nat.reduceSub, Nat.reduceMul, Nat.reduceLT, Nat.reduceLeDiff, Nat.reduceEqDiff, Nat.reduceDiv, Nat.reduceMod, Nat.reducePow, Int.reduceAdd, Int.reduceSub, Int.reduceMul, Int.reduceLT, Int.reduceLE, Int.reduceEq, Int.reduceNe, Int.reducePow, Int.reduceToNat, Int.reduceNeg]
    exact post_eq rfl
  have hc' : ¬ (L.length : Int) > 300 := by omega
  obtain ⟨X, hX1, hX2, hX3⟩ := colours_giv L bits less (by omega) hIL
  simp -dsimp -implicitDefEqProofs (disch := first | omega | (simp only [List.length_append, List.length_cons, List.length_nil, List.length_take, List.length_drop]; omega)) only [hb', hc', ↓aPre, aPost, oneW, allOne, retV, retVA, ↓reduceIte, reduceCtorEq, Nat.reduceAdd, Nat.reduceSub, Nat.reduceMul, Nat.reduceLT, Nat.reduceLeDiff, Nat.reduceEqDiff, Nat.reduceDiv, Nat.reduceMod, Nat.reducePow, Int.reduceAdd, Int.reduceSub, Int.reduceMul, Int.reduceLT, Int.reduceLE, Int.reduceEq, Int.reduceNe, Int.reducePow, Int.reduceToNat, Int.reduceNeg]
  refine call_giv hX3 ?_
  by_cases hg : fitP W H ∧ 1 ≤ p ∧ p ≤ 8 ∧ (cs.length : Int) = W * H * p
  rotate_left
  · have hbad := pic_bad (bits := bits) (ph := ph) (X := X) Z hW hH (by omega) hg
    simp -dsimp -implicitDefEqProofs (disch := first | omega | (simp only [List.length_append, List.length_cons, List.length_nil, List.length_take, List.length_drop]; omega)) only [↓aPre, aPost, oneW, allOne, retV, retVA, ↓reduceIte, reduceCtorEq, Nat.reduceAdd, Nat.reduceSub, Nat.reduceMul, Nat.reduceLT, Nat.reduceLeDiff, Nat.reduceEqDiff, Nat.reduceDiv, Nat.reduceMod, Nat.reducePow, Int.reduceAdd, Int.reduceSub, Int.reduceMul, Int.reduceLT, Int.reduceLE, Int.reduceEq, Int.reduceNe, Int.reducePow, Int.reduceToNat, Int.reduceNeg]
    refine call_giv hbad ?_
    simp -dsimp -implicitDefEqProofs (disch := first | omega | (simp only [List.length_append, List.length_cons, List.length_nil, List.length_take, List.length_drop]; omega)) only [↓aPre, aPost, oneW, allOne, retV, retVA, ↓reduceIte, reduceCtorEq, Nat.reduceAdd, Nat.reduceSub, Nat.reduceMul, Nat.reduceLT, Nat.reduceLeDiff, Nat.reduceEqDiff, Nat.reduceDiv, Nat.reduceMod, Nat.reducePow, Int.reduceAdd, Int.reduceSub, Int.reduceMul, Int.reduceLT, Int.reduceLE, Int.reduceEq, Int.reduceNe, Int.reducePow, Int.reduceToNat, Int.reduceNeg]
    by_cases hf : fitP W H
    rotate_left
    · refine call_giv (fits_f hf hW hH).2 ?_
      simp -dsimp -implicitDefEqProofs (disch := first | omega | (simp only [List.length_append, List.length_cons, List.length_nil, List.length_take, List.length_drop]; omega)) only [↓aPre, aPost, oneW, allOne, retV, retVA, ↓reduceIte, reduceCtorEq, Nat.reduceAdd, Nat.reduceSub, Nat.reduceMul, Nat.reduceLT, Nat.reduceLeDiff, Nat.reduceEqDiff, Nat.reduceDiv, Nat.reduceMod, Nat.reducePow, Int.reduceAdd, Int.reduceSub, Int.reduceMul, Int.reduceLT, Int.reduceLE, Int.reduceEq, Int.reduceNe, Int.reducePow, Int.reduceToNat, Int.reduceNeg]
      exact post_eq rfl
    obtain ⟨f1, f2, f3, f4, f5⟩ := hf
    obtain ⟨W, rfl⟩ := Int.eq_ofNat_of_zero_le f1
    obtain ⟨H, rfl⟩ := Int.eq_ofNat_of_zero_le f2
    obtain ⟨n, hn⟩ : ∃ n : Nat, W * H = n := ⟨_, rfl⟩
    have hp2 : (W : Int) * (H : Int) = n := by rw [← hn, Int.natCast_mul]
    rw [hp2] at f5
    refine call_giv (fits_t (by omega) (by omega) hn (by omega)).2 ?_
    by_cases hp1 : p < 1
    · simp -dsimp -implicitDefEqProofs (disch := first | omega | (simp only [List.length_append, List.length_cons, List.length_nil, List.length_take, List.length_drop]; omega)) only [hp1, ↓aPre, aPost, oneW, allOne, retV, retVA, ↓reduceIte, reduceCtorEq, Nat.reduceAdd, Nat.reduceSub, Nat.reduceMul, Nat.reduceLT, Nat.reduceLeDiff, Nat.reduceEqDiff, Nat.reduceDiv, Nat.reduceMod, Nat.reducePow, Int.reduceAdd, Int.reduceSub, Int.reduceMul, Int.reduceLT, Int.reduceLE, Int.reduceEq, Int.reduceNe, Int.reducePow, Int.reduceToNat, Int.reduceNeg]
      exact post_eq rfl
    by_cases hp8 : p > 8
    · simp -dsimp -implicitDefEqProofs (disch := first | omega | (simp only [List.length_append, List.length_cons, List.length_nil, List.length_take, List.length_drop]; omega)) only [hp1, hp8, ↓aPre, aPost, oneW, allOne, retV, retVA, ↓reduceIte, reduceCtorEq, Nat.reduceAdd, Nat.reduceSub, Nat.reduceMul, Nat.reduceLT, Nat.reduceLeDiff, Nat.reduceEqDiff, Nat.reduceDiv, Nat.reduceMod, Nat.reducePow, Int.reduceAdd, Int.reduceSub, Int.reduceMul, Int.reduceLT, Int.reduceLE, Int.reduceEq, Int.reduceNe, Int.reducePow, Int.reduceToNat, Int.reduceNeg]
      exact post_eq rfl
    obtain ⟨p, rfl⟩ := Int.eq_ofNat_of_zero_le (show 0 ≤ p by omega)
    obtain ⟨q, hq⟩ : ∃ q : Nat, n * p = q := ⟨_, rfl⟩
    have hq2 : (n : Int) * (p : Int) = q := by rw [← hq, Int.natCast_mul]
    have hqb : q ≤ n * 8 := by rw [← hq]; exact Nat.mul_le_mul_left n (by omega)
    have hne : ¬ (cs.length : Int) = q := fun e => hg ⟨⟨f1, f2, f3, f4, by rw [hp2]; exact f5⟩, by omega, by omega, by rw [hp2, hq2]; exact e⟩
    simp -dsimp -implicitDefEqProofs (disch := first | omega | (simp only [List.length_append, List.length_cons, List.length_nil, List.length_take, List.length_drop]; omega)) only [hp1, hp8, hp2, hq2, hne, ibne_t, ↓aPre, aPost, oneW, allOne, retV, retVA, ↓reduceIte, reduceCtorEq, Nat.reduceAdd, Nat.reduceSub, Nat.reduceMul, Nat.reduceLT, Nat.reduceLeDiff, Nat.reduceEqDiff, Nat.reduceDiv, Nat.reduceMod, Nat.reducePow, Int.reduceAdd, Int.reduceSub, Int.reduceMul, Int.reduceLT, Int.reduceLE, Int.reduceEq, Int.reduceNe, Int.reducePow, Int.reduceToNat, Int.reduceNeg]
    exact post_eq rfl
  obtain ⟨⟨f1, f2, f3, f4, f5⟩, p1, p8, hl⟩ := hg
  obtain ⟨W, rfl⟩ := Int.eq_ofNat_of_zero_le f1
  obtain ⟨H, rfl⟩ := Int.eq_ofNat_of_zero_le f2
  obtain ⟨p, rfl⟩ := Int.eq_ofNat_of_zero_le (show 0 ≤ p by omega)
  obtain ⟨n, hn⟩ : ∃ n : Nat, W * H = n := ⟨_, rfl⟩
  have hp2 : (W : Int) * (H : Int) = n := by rw [← hn, Int.natCast_mul]
  rw [hp2] at f5 hl
  have hlN : cs.length = n * p := by rw [← Int.natCast_mul] at hl; omega
  have hnp : (n : Int) * (p : Int) = (cs.length : Int) := hl.symm
  have hn0 : n ≤ cs.length := by rw [hlN]; exact Nat.le_mul_of_pos_right n (by omega)
  obtain ⟨E, R, G, B, hall⟩ := both_all (A := fun i => pxA ((cs.drop (i * p)).take p) bits ph X) fun i => px_both _ bits ph X ⟨by rw [List.length_take]; omega, fun z hz => hI z (List.mem_of_mem_drop (List.mem_of_mem_take hz)), hbi, by omega, hX2⟩
  have P : Pics W H n p bits ph cs X E R G B := ⟨by omega, by omega, hn, by omega, by omega, by omega, hlN, by omega, by omega, hbi, fun i => ⟨(hall i).1, (hall i).2.1⟩, fun i _ => (hall i).2.2.2.2.2.2.2.2.2.1⟩
  have q1 : ¬ (p : Int) < 1 := by omega
  have q2 : ¬ (p : Int) > 8 := by omega
  obtain ⟨m, hm, hok, hend⟩ := stop_ex (fun i => E i = 0) n
  have hft := (fits_t (by omega) (by omega) hn (by omega)).2
  by_cases hmn : m = n
  · subst hmn
    have hpic := pic_giv Z P hok
    rw [imgD] at hpic
    have tl := tabD_len (fun i => rgb (R i) (G i) (B i)) m
    simp -dsimp -implicitDefEqProofs (disch := first | omega | (simp only [List.length_append, List.length_cons, List.length_nil, List.length_take, List.length_drop]; omega)) only [↓aPre, aPost, oneW, allOne, retV, retVA, ↓reduceIte, reduceCtorEq, Nat.reduceAdd, Nat.reduceSub, Nat.reduceMul, Nat.reduceLT, Nat.reduceLeDiff, Nat.reduceEqDiff, Nat.reduceDiv, Nat.reduceMod, Nat.reducePow, Int.reduceAdd, Int.reduceSub, Int.reduceMul, Int.reduceLT, Int.reduceLE, Int.reduceEq, Int.reduceNe, Int.reducePow, Int.reduceToNat, Int.reduceNeg]
    refine call_own hpic ?_
    simp -dsimp -implicitDefEqProofs (disch := first | omega | (simp only [List.length_append, List.length_cons, List.length_nil, List.length_take, List.length_drop]; omega)) only [AV.ren, Ob.ren, ↓aPre, aPost, oneW, allOne, retV, retVA, ↓reduceIte, reduceCtorEq, Nat.reduceAdd, Nat.reduceSub, Nat.reduceMul, Nat.reduceLT, Nat.reduceLeDiff, Nat.reduceEqDiff, Nat.reduceDiv, Nat.reduceMod, Nat.reducePow, Int.reduceAdd, Int.reduceSub, Int.reduceMul, Int.reduceLT, Int.reduceLE, Int.reduceEq, Int.reduceNe, Int.reducePow, Int.reduceToNat, Int.reduceNeg]
    refine call_giv hft ?_
    simp -dsimp -implicitDefEqProofs (disch := first | omega | (simp only [List.length_append, List.length_cons, List.length_nil, List.length_take, List.length_drop]; omega)) only [q1, q2, hp2, hnp, ↓aPre, aPost, oneW, allOne, retV, retVA, ↓reduceIte, reduceCtorEq, Nat.reduceAdd, Nat.reduceSub, Nat.reduceMul, Nat.reduceLT, Nat.reduceLeDiff, Nat.reduceEqDiff, Nat.reduceDiv, Nat.reduceMod, Nat.reducePow, Int.reduceAdd, Int.reduceSub, Int.reduceMul, Int.reduceLT, Int.reduceLE, Int.reduceEq, Int.reduceNe, Int.reducePow, Int.reduceToNat, Int.reduceNeg]
    refine loop_of (fun s => ∃ (k : Nat), k ≤ m ∧ s.tm 2 = .ptr 2 0 ∧ s.tm 3 = .ptr 3 0 ∧ s.tm 5 = .d (.lst 1 (li .u64 X)) ∧ s.tm 6 = .ptr 6 0 ∧ s.tm 7 = .d (.c (.int .i64 0)) ∧ s.tm 81 = .d (.c (.int .i64 m)) ∧ s.tm 82 = .d (.c (.int .i64 k)) ∧ s.hp 2 = some (.box [.d (.c (.int .i64 W)), .d (.c (.int .i64 H)), .d (.c (.int .i64 p)), .d (.c (.int .i64 bits)), .d (.c (.int .u64 ph)), .d (.lst 1 (li .u32 cs)), .d (.lst 3 Z)]) ∧ s.hp 3 = some (.box [.d (.lst 1 (li .u64 L)), .d (.c (.bool less))]) ∧ s.hp 6 = some (.box [.d (.c (.int .i64 W)), .d (.c (.int .i64 H)), .sl 36 3 0 m]) ∧ s.hp 36 = some (.row 3 (tabD (fun i => rgb (R i) (G i) (B i)) m))) (fun s => m - (avN (s.tm 82)).toNat) ?_ ?_
    · refine ⟨0, Nat.zero_le _, ?_⟩
      simp -dsimp -implicitDefEqProofs (disch := first | omega | (simp only [List.length_append, List.length_cons, List.length_nil, List.length_take, List.length_drop]; omega)) only [Int.natCast_zero, ↓aPre, aPost, oneW, allOne, retV, retVA, ↓reduceIte, reduceCtorEq, Nat.reduceAdd, Nat.reduceSub, Nat.reduceMul, Nat.reduceLT, Nat.reduceLeDiff, Nat.reduceEqDiff, Nat.reduceDiv, Nat.reduceMod, Nat.reducePow, Int.reduceAdd, Int.reduceSub, Int.reduceMul, Int.reduceLT, Int.reduceLE, Int.reduceEq, Int.reduceNe, Int.reducePow, Int.reduceToNat, Int.reduceNeg]
    rintro s ⟨k, hk, hs⟩
    by_cases hlt : k < m
    · have hrx := (hall k).2.2.2.2.2.2.2.2.2.2
      have hr2 : 0 ≤ R k ∧ R k ≤ 255 := ⟨(hall k).2.2.1, (hall k).2.2.2.1⟩
      have hg2 : 0 ≤ G k ∧ G k ≤ 255 := ⟨(hall k).2.2.2.2.1, (hall k).2.2.2.2.2.1⟩
      have hb2 : 0 ≤ B k ∧ B k ≤ 255 := ⟨(hall k).2.2.2.2.2.2.1, (hall k).2.2.2.2.2.2.2.1⟩

      rw [pxA] at hrx
      obtain ⟨a, ha⟩ : ∃ a, a = k * p := ⟨_, rfl⟩
      have ha1 : (k : Int) * (p : Int) = a := by rw [ha, Int.natCast_mul]
      have ha2 : ((k : Int) + 1) * (p : Int) = ((a + p : Nat) : Int) := by rw [Int.add_mul, ha1, Int.one_mul, Int.natCast_add]
      have ha3 : a + p ≤ cs.length := by
        have := Nat.mul_le_mul_right p (show k + 1 ≤ m by omega)
        rw [Nat.succ_mul] at this
        omega
      rw [← ha] at hrx
      have hap : ((a : Int) + (p : Int)).toNat - a = p := by omega
      have he := hok k hlt
      rw [he] at hrx
      have hg1 := is_giv (R k) (G k) (B k) hr2 hg2 hb2
      have tg := tabD_get (fun i => rgb (R i) (G i) (B i)) hlt
      simp -dsimp -implicitDefEqProofs (disch := first | omega | (simp only [List.length_append, List.length_cons, List.length_nil, List.length_take, List.length_drop]; omega)) only [hs, ha1, ha2, hap, ↓aPre, aPost, oneW, allOne, retV, retVA, ↓reduceIte, reduceCtorEq, Nat.reduceAdd, Nat.reduceSub, Nat.reduceMul, Nat.reduceLT, Nat.reduceLeDiff, Nat.reduceEqDiff, Nat.reduceDiv, Nat.reduceMod, Nat.reducePow, Int.reduceAdd, Int.reduceSub, Int.reduceMul, Int.reduceLT, Int.reduceLE, Int.reduceEq, Int.reduceNe, Int.reducePow, Int.reduceToNat, Int.reduceNeg]
      refine call_giv hrx ?_
      simp -dsimp -implicitDefEqProofs (disch := first | omega | (simp only [List.length_append, List.length_cons, List.length_nil, List.length_take, List.length_drop]; omega)) only [hs, rres, tl, tg, ↓aPre, aPost, oneW, allOne, retV, retVA, ↓reduceIte, reduceCtorEq, Nat.reduceAdd, Nat.reduceSub, Nat.reduceMul, Nat.reduceLT, Nat.reduceLeDiff, Nat.reduceEqDiff, Nat.reduceDiv, Nat.reduceMod, Nat.reducePow, Int.reduceAdd, Int.reduceSub, Int.reduceMul, Int.reduceLT, Int.reduceLE, Int.reduceEq, Int.reduceNe, Int.reducePow, Int.reduceToNat, Int.reduceNeg]
      refine call_giv hg1 ?_
      simp -dsimp -implicitDefEqProofs (disch := first | omega | (simp only [List.length_append, List.length_cons, List.length_nil, List.length_take, List.length_drop]; omega)) only [hs, tl, hp2, ↓aPre, aPost, oneW, allOne, retV, retVA, ↓reduceIte, reduceCtorEq, Nat.reduceAdd, Nat.reduceSub, Nat.reduceMul, Nat.reduceLT, Nat.reduceLeDiff, Nat.reduceEqDiff, Nat.reduceDiv, Nat.reduceMod, Nat.reducePow, Int.reduceAdd, Int.reduceSub, Int.reduceMul, Int.reduceLT, Int.reduceLE, Int.reduceEq, Int.reduceNe, Int.reducePow, Int.reduceToNat, Int.reduceNeg]
      refine round_of ⟨k + 1, by omega, ?_⟩ ?_
      · simp -dsimp -implicitDefEqProofs (disch := first | omega | (simp only [List.length_append, List.length_cons, List.length_nil, List.length_take, List.length_drop]; omega)) only [hs, ↓aPre, aPost, oneW, allOne, retV, retVA, ↓reduceIte, reduceCtorEq, Nat.reduceAdd, Nat.reduceSub, Nat.reduceMul, Nat.reduceLT, Nat.reduceLeDiff, Nat.reduceEqDiff, Nat.reduceDiv, Nat.reduceMod, Nat.reducePow, Int.reduceAdd, Int.reduceSub, Int.reduceMul, Int.reduceLT, Int.reduceLE, Int.reduceEq, Int.reduceNe, Int.reducePow, Int.reduceToNat, Int.reduceNeg]
      · simp -dsimp -implicitDefEqProofs (disch := first | omega | (simp only [List.length_append, List.length_cons, List.length_nil, List.length_take, List.length_drop]; omega)) only [hs, ↓aPre, aPost, oneW, allOne, retV, retVA, ↓reduceIte, reduceCtorEq, Nat.reduceAdd, Nat.reduceSub, Nat.reduceMul, Nat.reduceLT, Nat.reduceLeDiff, Nat.reduceEqDiff, Nat.reduceDiv, Nat.reduceMod, Nat.reducePow, Int.reduceAdd, Int.reduceSub, Int.reduceMul, Int.reduceLT, Int.reduceLE, Int.reduceEq, Int.reduceNe, Int.reducePow, Int.reduceToNat, Int.reduceNeg]
        omega
    · obtain rfl : k = m := by omega
      simp -dsimp -implicitDefEqProofs (disch := first | omega | (simp only [List.length_append, List.length_cons, List.length_nil, List.length_take, List.length_drop]; omega)) only [hs, hp2, ↓aPre, aPost, oneW, allOne, retV, retVA, ↓reduceIte, reduceCtorEq, Nat.reduceAdd, Nat.reduceSub, Nat.reduceMul, Nat.reduceLT, Nat.reduceLeDiff, Nat.reduceEqDiff, Nat.reduceDiv, Nat.reduceMod, Nat.reducePow, Int.reduceAdd, Int.reduceSub, Int.reduceMul, Int.reduceLT, Int.reduceLE, Int.reduceEq, Int.reduceNe, Int.reducePow, Int.reduceToNat, Int.reduceNeg]
      exact post_eq rfl
  · have hx : E m ≠ 0 := hend.resolve_left hmn
    have hpic := picx_giv Z P m (by omega) hok hx
    rw [imgD] at hpic
    obtain ⟨em, hem⟩ : ∃ em, em = E m := ⟨_, rfl⟩
    rw [← hem] at hpic hx
    have hemb := P.eb m
    rw [← hem] at hemb
    have hx1 : ¬ em = 0 := hx
    simp -dsimp -implicitDefEqProofs (disch := first | omega | (simp only [List.length_append, List.length_cons, List.length_nil, List.length_take, List.length_drop]; omega)) only [↓aPre, aPost, oneW, allOne, retV, retVA, ↓reduceIte, reduceCtorEq, Nat.reduceAdd, Nat.reduceSub, Nat.reduceMul, Nat.reduceLT, Nat.reduceLeDiff, Nat.reduceEqDiff, Nat.reduceDiv, Nat.reduceMod, Nat.reducePow, Int.reduceAdd, Int.reduceSub, Int.reduceMul, Int.reduceLT, Int.reduceLE, Int.reduceEq, Int.reduceNe, Int.reducePow, Int.reduceToNat, Int.reduceNeg]
    refine call_giv hpic ?_
    simp -dsimp -implicitDefEqProofs (disch := first | omega | (simp only [List.length_append, List.length_cons, List.length_nil, List.length_take, List.length_drop]; omega)) only [↓aPre, aPost, oneW, allOne, retV, retVA, ↓reduceIte, reduceCtorEq, Nat.reduceAdd, Nat.reduceSub, Nat.reduceMul, Nat.reduceLT, Nat.reduceLeDiff, Nat.reduceEqDiff, Nat.reduceDiv, Nat.reduceMod, Nat.reducePow, Int.reduceAdd, Int.reduceSub, Int.reduceMul, Int.reduceLT, Int.reduceLE, Int.reduceEq, Int.reduceNe, Int.reducePow, Int.reduceToNat, Int.reduceNeg]
    refine call_giv hft ?_
    simp -dsimp -implicitDefEqProofs (disch := first | omega | (simp only [List.length_append, List.length_cons, List.length_nil, List.length_take, List.length_drop]; omega)) only [q1, q2, hp2, hnp, ↓aPre, aPost, oneW, allOne, retV, retVA, ↓reduceIte, reduceCtorEq, Nat.reduceAdd, Nat.reduceSub, Nat.reduceMul, Nat.reduceLT, Nat.reduceLeDiff, Nat.reduceEqDiff, Nat.reduceDiv, Nat.reduceMod, Nat.reducePow, Int.reduceAdd, Int.reduceSub, Int.reduceMul, Int.reduceLT, Int.reduceLE, Int.reduceEq, Int.reduceNe, Int.reducePow, Int.reduceToNat, Int.reduceNeg]
    refine loop_of (fun s => ∃ (k : Nat), k ≤ m ∧ s.tm 2 = .ptr 2 0 ∧ s.tm 3 = .ptr 3 0 ∧ s.tm 5 = .d (.lst 1 (li .u64 X)) ∧ s.tm 6 = .ptr 6 0 ∧ s.tm 7 = .d (.c (.int .i64 em)) ∧ s.tm 81 = .d (.c (.int .i64 n)) ∧ s.tm 82 = .d (.c (.int .i64 k)) ∧ s.hp 2 = some (.box [.d (.c (.int .i64 W)), .d (.c (.int .i64 H)), .d (.c (.int .i64 p)), .d (.c (.int .i64 bits)), .d (.c (.int .u64 ph)), .d (.lst 1 (li .u32 cs)), .d (.lst 3 Z)]) ∧ s.hp 3 = some (.box [.d (.lst 1 (li .u64 L)), .d (.c (.bool less))]) ∧ s.hp 6 = some (.box [.d (.c (.int .i64 0)), .d (.c (.int .i64 0)), .d (.lst 3 [])])) (fun s => n - (avN (s.tm 82)).toNat) ?_ ?_
    · refine ⟨0, Nat.zero_le _, ?_⟩
      simp -dsimp -implicitDefEqProofs (disch := first | omega | (simp only [List.length_append, List.length_cons, List.length_nil, List.length_take, List.length_drop]; omega)) only [Int.natCast_zero, ↓aPre, aPost, oneW, allOne, retV, retVA, ↓reduceIte, reduceCtorEq, Nat.reduceAdd, Nat.reduceSub, Nat.reduceMul, Nat.reduceLT, Nat.reduceLeDiff, Nat.reduceEqDiff, Nat.reduceDiv, Nat.reduceMod, Nat.reducePow, Int.reduceAdd, Int.reduceSub, Int.reduceMul, Int.reduceLT, Int.reduceLE, Int.reduceEq, Int.reduceNe, Int.reducePow, Int.reduceToNat, Int.reduceNeg]
    rintro s ⟨k, hk, hs⟩
    have hlt : k < n := by omega
    have hrx := (hall k).2.2.2.2.2.2.2.2.2.2
    have hr2 : 0 ≤ R k ∧ R k ≤ 255 := ⟨(hall k).2.2.1, (hall k).2.2.2.1⟩
    have hg2 : 0 ≤ G k ∧ G k ≤ 255 := ⟨(hall k).2.2.2.2.1, (hall k).2.2.2.2.2.1⟩
    have hb2 : 0 ≤ B k ∧ B k ≤ 255 := ⟨(hall k).2.2.2.2.2.2.1, (hall k).2.2.2.2.2.2.2.1⟩

    rw [pxA] at hrx
    obtain ⟨a, ha⟩ : ∃ a, a = k * p := ⟨_, rfl⟩
    have ha1 : (k : Int) * (p : Int) = a := by rw [ha, Int.natCast_mul]
    have ha2 : ((k : Int) + 1) * (p : Int) = ((a + p : Nat) : Int) := by rw [Int.add_mul, ha1, Int.one_mul, Int.natCast_add]
    have ha3 : a + p ≤ cs.length := by
      have := Nat.mul_le_mul_right p (show k + 1 ≤ n by omega)
      rw [Nat.succ_mul] at this
      omega
    rw [← ha] at hrx
    have hap : ((a : Int) + (p : Int)).toNat - a = p := by omega
    by_cases hkm : k < m
    · have he := hok k hkm
      rw [he] at hrx
      simp -dsimp -implicitDefEqProofs (disch := first | omega | (simp only [List.length_append, List.length_cons, List.length_nil, List.length_take, List.length_drop]; omega)) only [hs, ha1, ha2, hap, ↓aPre, aPost, oneW, allOne, retV, retVA, ↓reduceIte, reduceCtorEq, Nat.reduceAdd, Nat.reduceSub, Nat.reduceMul, Nat.reduceLT, Nat.reduceLeDiff, Nat.reduceEqDiff, Nat.reduceDiv, Nat.reduceMod, Nat.reducePow, Int.reduceAdd, Int.reduceSub, Int.reduceMul, Int.reduceLT, Int.reduceLE, Int.reduceEq, Int.reduceNe, Int.reducePow, Int.reduceToNat, Int.reduceNeg]
      refine call_giv hrx ?_
      simp -dsimp -implicitDefEqProofs (disch := first | omega | (simp only [List.length_append, List.length_cons, List.length_nil, List.length_take, List.length_drop]; omega)) only [hs, rres, hx1, ibne_t, ibeq_f, ↓aPre, aPost, oneW, allOne, retV, retVA, ↓reduceIte, reduceCtorEq, Nat.reduceAdd, Nat.reduceSub, Nat.reduceMul, Nat.reduceLT, Nat.reduceLeDiff, Nat.reduceEqDiff, Nat.reduceDiv, Nat.reduceMod, Nat.reducePow, Int.reduceAdd, Int.reduceSub, Int.reduceMul, Int.reduceLT, Int.reduceLE, Int.reduceEq, Int.reduceNe, Int.reducePow, Int.reduceToNat, Int.reduceNeg]
      refine round_of ⟨k + 1, by omega, ?_⟩ ?_
      · simp -dsimp -implicitDefEqProofs (disch := first | omega | (simp only [List.length_append, List.length_cons, List.length_nil, List.length_take, List.length_drop]; omega)) only [hs, ↓aPre, aPost, oneW, allOne, retV, retVA, ↓reduceIte, reduceCtorEq, Nat.reduceAdd, Nat.reduceSub, Nat.reduceMul, Nat.reduceLT, Nat.reduceLeDiff, Nat.reduceEqDiff, Nat.reduceDiv, Nat.reduceMod, Nat.reducePow, Int.reduceAdd, Int.reduceSub, Int.reduceMul, Int.reduceLT, Int.reduceLE, Int.reduceEq, Int.reduceNe, Int.reducePow, Int.reduceToNat, Int.reduceNeg]
      · simp -dsimp -implicitDefEqProofs (disch := first | omega | (simp only [List.length_append, List.length_cons, List.length_nil, List.length_take, List.length_drop]; omega)) only [hs, ↓aPre, aPost, oneW, allOne, retV, retVA, ↓reduceIte, reduceCtorEq, Nat.reduceAdd, Nat.reduceSub, Nat.reduceMul, Nat.reduceLT, Nat.reduceLeDiff, Nat.reduceEqDiff, Nat.reduceDiv, Nat.reduceMod, Nat.reducePow, Int.reduceAdd, Int.reduceSub, Int.reduceMul, Int.reduceLT, Int.reduceLE, Int.reduceEq, Int.reduceNe, Int.reducePow, Int.reduceToNat, Int.reduceNeg]
        omega
    · obtain rfl : k = m := by omega
      rw [← hem] at hrx
      simp -dsimp -implicitDefEqProofs (disch := first | omega | (simp only [List.length_append, List.length_cons, List.length_nil, List.length_take, List.length_drop]; omega)) only [hs, ha1, ha2, hap, ↓aPre, aPost, oneW, allOne, retV, retVA, ↓reduceIte, reduceCtorEq, Nat.reduceAdd, Nat.reduceSub, Nat.reduceMul, Nat.reduceLT, Nat.reduceLeDiff, Nat.reduceEqDiff, Nat.reduceDiv, Nat.reduceMod, Nat.reducePow, Int.reduceAdd, Int.reduceSub, Int.reduceMul, Int.reduceLT, Int.reduceLE, Int.reduceEq, Int.reduceNe, Int.reducePow, Int.reduceToNat, Int.reduceNeg]
      refine call_giv hrx ?_
      simp -dsimp -implicitDefEqProofs (disch := first | omega | (simp only [List.length_append, List.length_cons, List.length_nil, List.length_take, List.length_drop]; omega)) only [hs, rres, if_neg hx1, ibne_t hx, ↓aPre, aPost, oneW, allOne, retV, retVA, ↓reduceIte, reduceCtorEq, Nat.reduceAdd, Nat.reduceSub, Nat.reduceMul, Nat.reduceLT, Nat.reduceLeDiff, Nat.reduceEqDiff, Nat.reduceDiv, Nat.reduceMod, Nat.reducePow, Int.reduceAdd, Int.reduceSub, Int.reduceMul, Int.reduceLT, Int.reduceLE, Int.reduceEq, Int.reduceNe, Int.reducePow, Int.reduceToNat, Int.reduceNeg]
      exact post_eq rfl
theorem colourPictures_giv (y0 : (Int) × (Int) × (Int) × (Int) × (Int) × (List Int) × (List ((Int) × (Int) × (List Int)))) (h0 : ((-9223372036854775808 ≤ y0.1 ∧ y0.1 ≤ 9223372036854775807) ∧ (-9223372036854775808 ≤ y0.2.1 ∧ y0.2.1 ≤ 9223372036854775807) ∧ (-9223372036854775808 ≤ y0.2.2.1 ∧ y0.2.2.1 ≤ 9223372036854775807) ∧ (-9223372036854775808 ≤ y0.2.2.2.1 ∧ y0.2.2.2.1 ≤ 9223372036854775807) ∧ (0 ≤ y0.2.2.2.2.1 ∧ y0.2.2.2.2.1 ≤ 18446744073709551615) ∧ (y0.2.2.2.2.2.1.length * 4 ≤ 140737488351232 ∧ ∀ z ∈ y0.2.2.2.2.2.1, 0 ≤ z ∧ z ≤ 4294967295) ∧ (y0.2.2.2.2.2.2.length * 40 ≤ 140737488351232 ∧ ∀ e ∈ y0.2.2.2.2.2.2, ((0 ≤ e.1 ∧ e.1 ≤ 65535) ∧ (-9223372036854775808 ≤ e.2.1 ∧ e.2.1 ≤ 9223372036854775807) ∧ (e.2.2.length * 8 ≤ 140737488351232 ∧ ∀ z ∈ e.2.2, 0 ≤ z ∧ z ≤ 18446744073709551615))))) (y1 : (List Int) × (Bool)) (h1 : ((y1.1.length * 8 ≤ 140737488351232 ∧ ∀ z ∈ y1.1, 0 ≤ z ∧ z ≤ 18446744073709551615) ∧ True)) : Giv Try.prog 6 [.agg [.c (.int .i64 y0.1), .c (.int .i64 y0.2.1), .c (.int .i64 y0.2.2.1), .c (.int .i64 y0.2.2.2.1), .c (.int .u64 y0.2.2.2.2.1), .lst 1 (li .u32 y0.2.2.2.2.2.1), .lst 3 (y0.2.2.2.2.2.2.map fun y => .agg [.c (.int .u16 y.1), .c (.int .i64 y.2.1), .lst 1 (li .u64 y.2.2)])], .agg [.lst 1 (li .u64 y1.1), .c (.bool y1.2)]] (.d (.c (.bool true))) := by
  obtain ⟨W, H, p, bits, ph, cs, rest⟩ := y0
  obtain ⟨L, less⟩ := y1
  obtain ⟨a1, a2, a3, a4, a5, ⟨a6, a7⟩, a8⟩ := h0
  obtain ⟨⟨b1, b2⟩, -⟩ := h1
  dsimp only at a1 a2 a3 a4 a5 a6 a7 b1 b2
  exact law_giv W H p bits ph cs _ L less a1 a2 a3 a4 a5 (by omega) (fun z hz => by have := a7 z hz; omega) (by omega) (fun z hz => by have := b2 z hz; omega)
end Go.Proofs.Ytdhcbaeglfdflaa
