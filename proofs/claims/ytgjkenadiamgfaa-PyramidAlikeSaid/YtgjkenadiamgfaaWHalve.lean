/- Grids of half the size. No condition but what each says. -/
import Derived.Test.YtgjkenadiamgfaaWGrid
set_option linter.unusedSimpArgs false
set_option linter.unusedVariables false
set_option maxRecDepth 8000
set_option maxHeartbeats 4000000
namespace Go.Proofs.Ytgjkenadiamgfaa
open Go.Eng Go.RowKit
def hvG (W H : Nat) (l : List Int) (y x : Nat) : Int := (cl W H l (2 * y) (2 * x) + cl W H l (2 * y) (2 * x + 1) + cl W H l (2 * y + 1) (2 * x) + cl W H l (2 * y + 1) (2 * x + 1) + 2) / 4
def hvL (W H : Nat) (l : List Int) : List Int := grL (hvG W H l) ((H + 1) / 2) ((W + 1) / 2)
theorem cl_in {m : Int} {W H : Nat} {l : List Int} (h : In m l) (hm : 0 < m) (y x : Nat) : 0 ≤ cl W H l y x ∧ cl W H l y x < m := h.get hm _
theorem hvG_in {m : Int} {W H : Nat} {l : List Int} (h : In m l) (hm : 0 < m) (y x : Nat) : 0 ≤ hvG W H l y x ∧ hvG W H l y x < m := by
  have := cl_in (W := W) (H := H) h hm (2 * y) (2 * x)
  have := cl_in (W := W) (H := H) h hm (2 * y) (2 * x + 1)
  have := cl_in (W := W) (H := H) h hm (2 * y + 1) (2 * x)
  have := cl_in (W := W) (H := H) h hm (2 * y + 1) (2 * x + 1)
  unfold hvG
  omega
theorem Rt.half {m : Int} {W H : Nat} {l : List Int} (r : Rt m W H l) (hm : 0 < m) : Rt m ((W + 1) / 2) ((H + 1) / 2) (hvL W H l) := by
  have h1 := r.w
  have h2 := r.h
  refine ⟨by omega, by omega, ?_, by rw [hvL, grL_len, Nat.mul_comm], In.tab fun j _ => hvG_in r.i hm _ _⟩
  rcases Nat.eq_zero_or_pos W with hw | hw
  · rw [hw]; simp
  rcases Nat.eq_zero_or_pos H with hh | hh
  · rw [hh]; simp
  exact Nat.le_trans (Nat.mul_le_mul (show (W + 1) / 2 ≤ W by omega) (show (H + 1) / 2 ≤ H by omega)) r.p
/-- the sum so far, of 2 and four cells -/
def sq0 (q : Nat → Nat → Int) : Nat → Int
  | 0 => 2
  | i + 1 => sq0 q i + q i 0 + q i 1
def sqj (q : Nat → Nat → Int) (i : Nat) : Nat → Int
  | 0 => sq0 q i
  | j + 1 => sqj q i j + q i j
theorem sq0_b {q : Nat → Nat → Int} (h : ∀ i j, 0 ≤ q i j ∧ q i j < 4294967296) : ∀ i, 0 ≤ sq0 q i ∧ sq0 q i ≤ 2 + i * 8589934592
  | 0 => by simp [sq0]
  | i + 1 => by
    have := sq0_b h i
    have := h i 0
    have := h i 1
    rw [sq0]; omega
theorem sqj_b {q : Nat → Nat → Int} (h : ∀ i j, 0 ≤ q i j ∧ q i j < 4294967296) (i : Nat) : ∀ j, 0 ≤ sqj q i j ∧ sqj q i j ≤ 2 + i * 8589934592 + j * 4294967296
  | 0 => by
    have := sq0_b h i
    rw [sqj]; omega
  | j + 1 => by
    have := sqj_b h i j
    have := h i j
    rw [sqj]; omega
def pk (a b : Nat) (i : Nat) : Nat := if i = 0 then a else b
theorem pk_at (a b : Nat) {i : Nat} (h : i < 2) : ([(a : Int), (b : Int)] : List Int).getD i 0 = (pk a b i : Nat) := by
  obtain rfl | rfl : i = 0 ∨ i = 1 := by omega
  · rfl
  · rfl
theorem pk_le {a b n : Nat} (ha : a < n) (hb : b < n) (i : Nat) : pk a b i < n := by unfold pk; split <;> omega
theorem halve_e_u8 {m : Int} {W H : Nat} {l : List Int} (r : Rt m W H l) (h0 : W = 0 ∨ H = 0) : Giv Try.prog 17 [gD .u8 W H l] (retV [gD .u8 0 0 [], .c (.int .i64 1)]) := by
  refine Giv.of mixed c17 (Nat.le_of_ble_eq_true rfl) ?_
  have hr := right_u8 r
  by_cases hw : W = 0
  · subst hw
    simp -dsimp -implicitDefEqProofs (disch := first | omega | (simp only [List.length_append, List.length_cons, List.length_nil, List.length_take, List.length_drop]; omega)) only [a17, gD, ↓aPre, aPost, oneW, allOne, retV, retVA, ↓reduceIte, reduceCtorEq, Nat.reduceAdd, Nat.reduceSub, Nat.reduceMul, Nat.reduceLT, Nat.reduceLeDiff, Nat.reduceEqDiff, Nat.reduceDiv, Nat.reduceMod, Nat.reducePow, Int.reduceAdd, Int.reduceSub, Int.reduceMul, Int.reduceLT, Int.reduceLE, Int.reduceEq, Int.reduceNe, Int.reducePow, Int.reduceToNat, Int.reduceNeg]
    refine call_giv hr ?_
    simp -dsimp -implicitDefEqProofs (disch := first | omega | (simp only [List.length_append, List.length_cons, List.length_nil, List.length_take, List.length_drop]; omega)) only [gD, Int.natCast_zero, ↓aPre, aPost, oneW, allOne, retV, retVA, ↓reduceIte, reduceCtorEq, Nat.reduceAdd, Nat.reduceSub, Nat.reduceMul, Nat.reduceLT, Nat.reduceLeDiff, Nat.reduceEqDiff, Nat.reduceDiv, Nat.reduceMod, Nat.reducePow, Int.reduceAdd, Int.reduceSub, Int.reduceMul, Int.reduceLT, Int.reduceLE, Int.reduceEq, Int.reduceNe, Int.reducePow, Int.reduceToNat, Int.reduceNeg]
    exact post_le (by repeat (first | exact leD.nil | exact leE.refl _ | exact leE.nil _ | refine leD.cons ?_ ?_ | refine leE.agg ?_))
  · obtain rfl : H = 0 := by omega
    have hw1 : ¬ (W : Int) = 0 := by omega
    simp -dsimp -implicitDefEqProofs (disch := first | omega | (simp only [List.length_append, List.length_cons, List.length_nil, List.length_take, List.length_drop]; omega)) only [a17, gD, ↓aPre, aPost, oneW, allOne, retV, retVA, ↓reduceIte, reduceCtorEq, Nat.reduceAdd, Nat.reduceSub, Nat.reduceMul, Nat.reduceLT, Nat.reduceLeDiff, Nat.reduceEqDiff, Nat.reduceDiv, Nat.reduceMod, Nat.reducePow, Int.reduceAdd, Int.reduceSub, Int.reduceMul, Int.reduceLT, Int.reduceLE, Int.reduceEq, Int.reduceNe, Int.reducePow, Int.reduceToNat, Int.reduceNeg]
    refine call_giv hr ?_
    simp -dsimp -implicitDefEqProofs (disch := first | omega | (simp only [List.length_append, List.length_cons, List.length_nil, List.length_take, List.length_drop]; omega)) only [gD, ibeq_f hw1, hw1, Int.natCast_zero, ↓aPre, aPost, oneW, allOne, retV, retVA, ↓reduceIte, reduceCtorEq, Nat.reduceAdd, Nat.reduceSub, Nat.reduceMul, Nat.reduceLT, Nat.reduceLeDiff, Nat.reduceEqDiff, Nat.reduceDiv, Nat.reduceMod, Nat.reducePow, Int.reduceAdd, Int.reduceSub, Int.reduceMul, Int.reduceLT, Int.reduceLE, Int.reduceEq, Int.reduceNe, Int.reducePow, Int.reduceToNat, Int.reduceNeg]
    exact post_le (by repeat (first | exact leD.nil | exact leE.refl _ | exact leE.nil _ | refine leD.cons ?_ ?_ | refine leE.agg ?_))
theorem halve_u8 {W H : Nat} {l : List Int} (r : Rt 256 W H l) (hW : 1 ≤ W) (hH : 1 ≤ H) : Giv Try.prog 17 [gD .u8 W H l] (retV [gD .u8 ((W + 1) / 2 : Nat) ((H + 1) / 2 : Nat) (hvL W H l), .c (.int .i64 0)]) := by
  refine Giv.of mixed c17 (Nat.le_of_ble_eq_true rfl) ?_
  have r' := r.half (by decide)
  have hr := right_u8 r
  have hw1 : ¬ (W : Int) = 0 := by omega
  have hh1 : ¬ (H : Int) = 0 := by omega
  obtain ⟨h1, h2, h3, h4, h5⟩ := r
  obtain ⟨w', hw'⟩ : ∃ w', w' = (W + 1) / 2 := ⟨_, rfl⟩
  obtain ⟨h', hh'⟩ : ∃ h', h' = (H + 1) / 2 := ⟨_, rfl⟩
  have hwd : ((W : Int) + 1) / 2 = (w' : Int) := by omega
  have hhd : ((H : Int) + 1) / 2 = (h' : Int) := by omega
  have hwh := r'.p
  rw [hvL, ← hw', ← hh', grL]
  rw [← hw', ← hh', Nat.mul_comm] at hwh
  obtain ⟨g, hg⟩ : ∃ g, g = grF (hvG W H l) w' := ⟨_, rfl⟩
  rw [← hg]
  simp -dsimp -implicitDefEqProofs (disch := first | omega | (simp only [List.length_append, List.length_cons, List.length_nil, List.length_take, List.length_drop]; omega)) only [a17, gD, ↓aPre, aPost, oneW, allOne, retV, retVA, ↓reduceIte, reduceCtorEq, Nat.reduceAdd, Nat.reduceSub, Nat.reduceMul, Nat.reduceLT, Nat.reduceLeDiff, Nat.reduceEqDiff, Nat.reduceDiv, Nat.reduceMod, Nat.reducePow, Int.reduceAdd, Int.reduceSub, Int.reduceMul, Int.reduceLT, Int.reduceLE, Int.reduceEq, Int.reduceNe, Int.reducePow, Int.reduceToNat, Int.reduceNeg]
  refine call_giv hr ?_
  simp -dsimp -implicitDefEqProofs (disch := first | omega | (simp only [List.length_append, List.length_cons, List.length_nil, List.length_take, List.length_drop]; omega)) only [ibeq_f hw1, hw1, ibeq_f hh1, hh1, hwd, hhd, ↓aPre, aPost, oneW, allOne, retV, retVA, ↓reduceIte, reduceCtorEq, Nat.reduceAdd, Nat.reduceSub, Nat.reduceMul, Nat.reduceLT, Nat.reduceLeDiff, Nat.reduceEqDiff, Nat.reduceDiv, Nat.reduceMod, Nat.reducePow, Int.reduceAdd, Int.reduceSub, Int.reduceMul, Int.reduceLT, Int.reduceLE, Int.reduceEq, Int.reduceNe, Int.reducePow, Int.reduceToNat, Int.reduceNeg]
  refine loop_nilB 4 2 100 1 [.d (.c (.int .i64 w')), .d (.c (.int .i64 h')), .d (.c (.slice none 0 0))] (fun s => ∃ (y : Nat), y ≤ h' ∧ s.tm 1 = .ptr 1 0 ∧ s.hp 1 = some (.box [.d (.c (.int .i64 W)), .d (.c (.int .i64 H)), .d (.lst 1 (li .u8 l))]) ∧ s.tm 2 = .ptr 2 0 ∧ s.hp 2 = some (.box [.d (.c (.int .i64 0)), .d (.c (.int .i64 0)), .d (.c (.slice none 0 0))]) ∧ s.tm 4 = .ptr 4 0 ∧ s.tm 36 = .d (.c (.int .i64 h')) ∧ s.tm 37 = .d (.c (.int .i64 y)) ∧ s.hp 4 = some (.box [.d (.c (.int .i64 w')), .d (.c (.int .i64 h')), .sl 100 1 0 (y * w')]) ∧ s.hp 100 = some (.row 1 (li .u8 (tab g (y * w'))))) (fun s => h' - (avN (s.tm 37)).toNat) ?_ rfl (by decide) (by decide) ?_ ?_
  · simp -dsimp -implicitDefEqProofs (disch := first | omega | (simp only [List.length_append, List.length_cons, List.length_nil, List.length_take, List.length_drop]; omega)) only [↓aPre, aPost, oneW, allOne, retV, retVA, ↓reduceIte, reduceCtorEq, Nat.reduceAdd, Nat.reduceSub, Nat.reduceMul, Nat.reduceLT, Nat.reduceLeDiff, Nat.reduceEqDiff, Nat.reduceDiv, Nat.reduceMod, Nat.reducePow, Int.reduceAdd, Int.reduceSub, Int.reduceMul, Int.reduceLT, Int.reduceLE, Int.reduceEq, Int.reduceNe, Int.reducePow, Int.reduceToNat, Int.reduceNeg]
  · refine ⟨0, Nat.zero_le _, ?_⟩
    simp -dsimp -implicitDefEqProofs (disch := first | omega | (simp only [List.length_append, List.length_cons, List.length_nil, List.length_take, List.length_drop]; omega)) only [tab, Int.natCast_zero, Nat.zero_mul, List.set_cons_succ, List.set_cons_zero, ↓aPre, aPost, oneW, allOne, retV, retVA, ↓reduceIte, reduceCtorEq, Nat.reduceAdd, Nat.reduceSub, Nat.reduceMul, Nat.reduceLT, Nat.reduceLeDiff, Nat.reduceEqDiff, Nat.reduceDiv, Nat.reduceMod, Nat.reducePow, Int.reduceAdd, Int.reduceSub, Int.reduceMul, Int.reduceLT, Int.reduceLE, Int.reduceEq, Int.reduceNe, Int.reducePow, Int.reduceToNat, Int.reduceNeg]
  rintro s ⟨y, hy, hs⟩
  by_cases hlt : y < h'
  · simp -dsimp -implicitDefEqProofs (disch := first | omega | (simp only [List.length_append, List.length_cons, List.length_nil, List.length_take, List.length_drop]; omega)) only [hs, ↓aPre, aPost, oneW, allOne, retV, retVA, ↓reduceIte, reduceCtorEq, Nat.reduceAdd, Nat.reduceSub, Nat.reduceMul, Nat.reduceLT, Nat.reduceLeDiff, Nat.reduceEqDiff, Nat.reduceDiv, Nat.reduceMod, Nat.reducePow, Int.reduceAdd, Int.reduceSub, Int.reduceMul, Int.reduceLT, Int.reduceLE, Int.reduceEq, Int.reduceNe, Int.reducePow, Int.reduceToNat, Int.reduceNeg]
    refine loop_of (fun s => ∃ (x : Nat), x ≤ w' ∧ s.tm 1 = .ptr 1 0 ∧ s.hp 1 = some (.box [.d (.c (.int .i64 W)), .d (.c (.int .i64 H)), .d (.lst 1 (li .u8 l))]) ∧ s.tm 2 = .ptr 2 0 ∧ s.hp 2 = some (.box [.d (.c (.int .i64 0)), .d (.c (.int .i64 0)), .d (.c (.slice none 0 0))]) ∧ s.tm 4 = .ptr 4 0 ∧ s.tm 36 = .d (.c (.int .i64 h')) ∧ s.tm 37 = .d (.c (.int .i64 y)) ∧ s.tm 5 = .d (.c (.int .i64 y)) ∧ s.tm 41 = .d (.c (.int .i64 w')) ∧ s.tm 42 = .d (.c (.int .i64 x)) ∧ s.hp 4 = some (.box [.d (.c (.int .i64 w')), .d (.c (.int .i64 h')), .sl 100 1 0 (y * w' + x)]) ∧ s.hp 100 = some (.row 1 (li .u8 (tab g (y * w' + x))))) (fun s => w' - (avN (s.tm 42)).toNat) ?_ ?_
    · refine ⟨0, Nat.zero_le _, ?_⟩
      simp -dsimp -implicitDefEqProofs (disch := first | omega | (simp only [List.length_append, List.length_cons, List.length_nil, List.length_take, List.length_drop]; omega)) only [hs, Int.natCast_zero, ↓aPre, aPost, oneW, allOne, retV, retVA, ↓reduceIte, reduceCtorEq, Nat.reduceAdd, Nat.reduceSub, Nat.reduceMul, Nat.reduceLT, Nat.reduceLeDiff, Nat.reduceEqDiff, Nat.reduceDiv, Nat.reduceMod, Nat.reducePow, Int.reduceAdd, Int.reduceSub, Int.reduceMul, Int.reduceLT, Int.reduceLE, Int.reduceEq, Int.reduceNe, Int.reducePow, Int.reduceToNat, Int.reduceNeg]
    rintro s2 ⟨x, hx, hs2⟩
    have el := tab_len g (y * w' + x)
    by_cases hxl : x < w'
    · have hpl2 := place_lt hxl hlt
      obtain ⟨r0, hr0⟩ : ∃ r0, r0 = 2 * y := ⟨_, rfl⟩
      obtain ⟨r1, hr1⟩ : ∃ r1, r1 = min (2 * y + 1) (H - 1) := ⟨_, rfl⟩
      obtain ⟨c0, hc0⟩ : ∃ c0, c0 = 2 * x := ⟨_, rfl⟩
      obtain ⟨c1, hc1⟩ : ∃ c1, c1 = min (2 * x + 1) (W - 1) := ⟨_, rfl⟩
      have er0 : 2 * (y : Int) = (r0 : Int) := by omega
      have er1 : (if (H : Int) - 1 < (r0 : Int) + 1 then (H : Int) - 1 else (r0 : Int) + 1) = (r1 : Int) := by split <;> omega
      have ec0 : 2 * (x : Int) = (c0 : Int) := by omega
      have ec1 : (if (W : Int) - 1 < (c0 : Int) + 1 then (W : Int) - 1 else (c0 : Int) + 1) = (c1 : Int) := by split <;> omega
      obtain ⟨q, hq⟩ : ∃ q : Nat → Nat → Int, q = fun i j => l.getD (pk r0 r1 i * W + pk c0 c1 j) 0 := ⟨_, rfl⟩
      have hqb : ∀ i j, 0 ≤ q i j ∧ q i j < 256 := fun i j => by rw [hq]; exact h5.get (by decide) _
      have hqb2 : ∀ i j, 0 ≤ q i j ∧ q i j < 4294967296 := fun i j => by have := hqb i j; omega
      have hgv : sq0 q 2 / 4 = g (y * w' + x) := by
        rw [hg, grF_at _ hxl, hvG]
        unfold cl
        rw [show min (2 * y) (H - 1) = r0 by omega, show min (2 * y + 1) (H - 1) = r1 by omega, show min (2 * x) (W - 1) = c0 by omega, show min (2 * x + 1) (W - 1) = c1 by omega]
        simp only [sq0, hq, pk, if_true, if_neg (show ¬ (1 : Nat) = 0 by decide)]
        omega
      have hgb : 0 ≤ g (y * w' + x) ∧ g (y * w' + x) < 256 := by rw [hg, grF_at _ hxl]; exact hvG_in h5 (by decide) _ _
      have et : tab g (y * w' + (x + 1)) = tab g (y * w' + x) ++ [g (y * w' + x)] := rfl
      simp -dsimp -implicitDefEqProofs (disch := first | omega | (simp only [List.length_append, List.length_cons, List.length_nil, List.length_take, List.length_drop]; omega)) only [hs2, er0, er1, ↓aPre, aPost, oneW, allOne, retV, retVA, ↓reduceIte, reduceCtorEq, Nat.reduceAdd, Nat.reduceSub, Nat.reduceMul, Nat.reduceLT, Nat.reduceLeDiff, Nat.reduceEqDiff, Nat.reduceDiv, Nat.reduceMod, Nat.reducePow, Int.reduceAdd, Int.reduceSub, Int.reduceMul, Int.reduceLT, Int.reduceLE, Int.reduceEq, Int.reduceNe, Int.reducePow, Int.reduceToNat, Int.reduceNeg]
      refine loop_of (fun s => ∃ (i : Nat), i ≤ 2 ∧ s.tm 1 = .ptr 1 0 ∧ s.hp 1 = some (.box [.d (.c (.int .i64 W)), .d (.c (.int .i64 H)), .d (.lst 1 (li .u8 l))]) ∧ s.tm 2 = .ptr 2 0 ∧ s.hp 2 = some (.box [.d (.c (.int .i64 0)), .d (.c (.int .i64 0)), .d (.c (.slice none 0 0))]) ∧ s.tm 4 = .ptr 4 0 ∧ s.tm 36 = .d (.c (.int .i64 h')) ∧ s.tm 37 = .d (.c (.int .i64 y)) ∧ s.tm 5 = .d (.c (.int .i64 y)) ∧ s.tm 41 = .d (.c (.int .i64 w')) ∧ s.tm 42 = .d (.c (.int .i64 x)) ∧ s.hp 4 = some (.box [.d (.c (.int .i64 w')), .d (.c (.int .i64 h')), .sl 100 1 0 (y * w' + x)]) ∧ s.hp 100 = some (.row 1 (li .u8 (tab g (y * w' + x)))) ∧ s.tm 6 = .d (.c (.int .i64 x)) ∧ s.tm 54 = .d (.lst 1 (li .i64 [(r0 : Int), r1])) ∧ s.tm 55 = .d (.c (.int .i64 2)) ∧ s.tm 56 = .d (.c (.int .i64 i)) ∧ s.tm 7 = .d (.c (.int .u64 (sq0 q i)))) (fun s => 2 - (avN (s.tm 56)).toNat) ?_ ?_
      · refine ⟨0, Nat.zero_le _, ?_⟩
        simp -dsimp -implicitDefEqProofs (disch := first | omega | (simp only [List.length_append, List.length_cons, List.length_nil, List.length_take, List.length_drop]; omega)) only [hs2, er0, er1, sq0, Int.natCast_zero, ↓aPre, aPost, oneW, allOne, retV, retVA, ↓reduceIte, reduceCtorEq, Nat.reduceAdd, Nat.reduceSub, Nat.reduceMul, Nat.reduceLT, Nat.reduceLeDiff, Nat.reduceEqDiff, Nat.reduceDiv, Nat.reduceMod, Nat.reducePow, Int.reduceAdd, Int.reduceSub, Int.reduceMul, Int.reduceLT, Int.reduceLE, Int.reduceEq, Int.reduceNe, Int.reducePow, Int.reduceToNat, Int.reduceNeg]
      rintro s3 ⟨i, hi, hs3⟩
      by_cases hil : i < 2
      · have eri := pk_at r0 r1 hil
        have hri := pk_le (show r0 < H by omega) (show r1 < H by omega) i
        simp -dsimp -implicitDefEqProofs (disch := first | omega | (simp only [List.length_append, List.length_cons, List.length_nil, List.length_take, List.length_drop]; omega)) only [hs3, eri, ec0, ec1, ↓aPre, aPost, oneW, allOne, retV, retVA, ↓reduceIte, reduceCtorEq, Nat.reduceAdd, Nat.reduceSub, Nat.reduceMul, Nat.reduceLT, Nat.reduceLeDiff, Nat.reduceEqDiff, Nat.reduceDiv, Nat.reduceMod, Nat.reducePow, Int.reduceAdd, Int.reduceSub, Int.reduceMul, Int.reduceLT, Int.reduceLE, Int.reduceEq, Int.reduceNe, Int.reducePow, Int.reduceToNat, Int.reduceNeg]
        refine loop_of (fun s => ∃ (j : Nat), j ≤ 2 ∧ s.tm 1 = .ptr 1 0 ∧ s.hp 1 = some (.box [.d (.c (.int .i64 W)), .d (.c (.int .i64 H)), .d (.lst 1 (li .u8 l))]) ∧ s.tm 2 = .ptr 2 0 ∧ s.hp 2 = some (.box [.d (.c (.int .i64 0)), .d (.c (.int .i64 0)), .d (.c (.slice none 0 0))]) ∧ s.tm 4 = .ptr 4 0 ∧ s.tm 36 = .d (.c (.int .i64 h')) ∧ s.tm 37 = .d (.c (.int .i64 y)) ∧ s.tm 5 = .d (.c (.int .i64 y)) ∧ s.tm 41 = .d (.c (.int .i64 w')) ∧ s.tm 42 = .d (.c (.int .i64 x)) ∧ s.hp 4 = some (.box [.d (.c (.int .i64 w')), .d (.c (.int .i64 h')), .sl 100 1 0 (y * w' + x)]) ∧ s.hp 100 = some (.row 1 (li .u8 (tab g (y * w' + x)))) ∧ s.tm 6 = .d (.c (.int .i64 x)) ∧ s.tm 54 = .d (.lst 1 (li .i64 [(r0 : Int), r1])) ∧ s.tm 55 = .d (.c (.int .i64 2)) ∧ s.tm 56 = .d (.c (.int .i64 i)) ∧ s.tm 9 = .d (.c (.int .i64 (pk r0 r1 i))) ∧ s.tm 69 = .d (.lst 1 (li .i64 [(c0 : Int), c1])) ∧ s.tm 70 = .d (.c (.int .i64 2)) ∧ s.tm 71 = .d (.c (.int .i64 j)) ∧ s.tm 7 = .d (.c (.int .u64 (sqj q i j)))) (fun s => 2 - (avN (s.tm 71)).toNat) ?_ ?_
        · refine ⟨0, Nat.zero_le _, ?_⟩
          simp -dsimp -implicitDefEqProofs (disch := first | omega | (simp only [List.length_append, List.length_cons, List.length_nil, List.length_take, List.length_drop]; omega)) only [hs3, eri, ec0, ec1, sqj, Int.natCast_zero, ↓aPre, aPost, oneW, allOne, retV, retVA, ↓reduceIte, reduceCtorEq, Nat.reduceAdd, Nat.reduceSub, Nat.reduceMul, Nat.reduceLT, Nat.reduceLeDiff, Nat.reduceEqDiff, Nat.reduceDiv, Nat.reduceMod, Nat.reducePow, Int.reduceAdd, Int.reduceSub, Int.reduceMul, Int.reduceLT, Int.reduceLE, Int.reduceEq, Int.reduceNe, Int.reducePow, Int.reduceToNat, Int.reduceNeg]
        rintro s4 ⟨j, hj, hs4⟩
        by_cases hjl : j < 2
        · have ecj := pk_at c0 c1 hjl
          have hcj := pk_le (show c0 < W by omega) (show c1 < W by omega) j
          have hpl := place_lt hcj hri
          have hWH : H * W ≤ 4194304 := by rw [Nat.mul_comm]; exact h3
          have hll : l.length = H * W := by rw [h4, Nat.mul_comm]
          have hqe : q i j = l.getD (pk r0 r1 i * W + pk c0 c1 j) 0 := by rw [hq]
          obtain ⟨a, ha⟩ : ∃ a, a = pk r0 r1 i := ⟨_, rfl⟩
          obtain ⟨c, hc⟩ : ∃ c, c = pk c0 c1 j := ⟨_, rfl⟩
          rw [← ha] at hs4 hpl hqe
          rw [← hc] at ecj hcj hpl hqe
          obtain ⟨p, hp⟩ : ∃ p : Nat, p = a * W := ⟨_, rfl⟩
          have hp2 : (a : Int) * (W : Int) = p := by rw [hp, Int.natCast_mul]
          rw [← hp] at hpl hqe
          have e1 : ((p : Int) + c).toNat = p + c := by omega
          have hsb := sqj_b hqb2 i j
          have hqz := hqb i j
          simp -dsimp -implicitDefEqProofs (disch := first | omega | (simp only [List.length_append, List.length_cons, List.length_nil, List.length_take, List.length_drop]; omega)) only [hs4, ecj, hp2, e1, ← hqe, ↓aPre, aPost, oneW, allOne, retV, retVA, ↓reduceIte, reduceCtorEq, Nat.reduceAdd, Nat.reduceSub, Nat.reduceMul, Nat.reduceLT, Nat.reduceLeDiff, Nat.reduceEqDiff, Nat.reduceDiv, Nat.reduceMod, Nat.reducePow, Int.reduceAdd, Int.reduceSub, Int.reduceMul, Int.reduceLT, Int.reduceLE, Int.reduceEq, Int.reduceNe, Int.reducePow, Int.reduceToNat, Int.reduceNeg]
          refine round_of ⟨j + 1, by omega, ?_⟩ ?_
          · simp -dsimp -implicitDefEqProofs (disch := first | omega | (simp only [List.length_append, List.length_cons, List.length_nil, List.length_take, List.length_drop]; omega)) only [hs4, ecj, hp2, e1, ← hqe, sqj, ha, ↓aPre, aPost, oneW, allOne, retV, retVA, ↓reduceIte, reduceCtorEq, Nat.reduceAdd, Nat.reduceSub, Nat.reduceMul, Nat.reduceLT, Nat.reduceLeDiff, Nat.reduceEqDiff, Nat.reduceDiv, Nat.reduceMod, Nat.reducePow, Int.reduceAdd, Int.reduceSub, Int.reduceMul, Int.reduceLT, Int.reduceLE, Int.reduceEq, Int.reduceNe, Int.reducePow, Int.reduceToNat, Int.reduceNeg]
          · simp -dsimp -implicitDefEqProofs (disch := first | omega | (simp only [List.length_append, List.length_cons, List.length_nil, List.length_take, List.length_drop]; omega)) only [hs4, ↓aPre, aPost, oneW, allOne, retV, retVA, ↓reduceIte, reduceCtorEq, Nat.reduceAdd, Nat.reduceSub, Nat.reduceMul, Nat.reduceLT, Nat.reduceLeDiff, Nat.reduceEqDiff, Nat.reduceDiv, Nat.reduceMod, Nat.reducePow, Int.reduceAdd, Int.reduceSub, Int.reduceMul, Int.reduceLT, Int.reduceLE, Int.reduceEq, Int.reduceNe, Int.reducePow, Int.reduceToNat, Int.reduceNeg]
            omega
        · obtain rfl : j = 2 := by omega
          have e2 : sqj q i 2 = sq0 q (i + 1) := rfl
          simp -dsimp -implicitDefEqProofs (disch := first | omega | (simp only [List.length_append, List.length_cons, List.length_nil, List.length_take, List.length_drop]; omega)) only [hs4, e2, ↓aPre, aPost, oneW, allOne, retV, retVA, ↓reduceIte, reduceCtorEq, Nat.reduceAdd, Nat.reduceSub, Nat.reduceMul, Nat.reduceLT, Nat.reduceLeDiff, Nat.reduceEqDiff, Nat.reduceDiv, Nat.reduceMod, Nat.reducePow, Int.reduceAdd, Int.reduceSub, Int.reduceMul, Int.reduceLT, Int.reduceLE, Int.reduceEq, Int.reduceNe, Int.reducePow, Int.reduceToNat, Int.reduceNeg]
          refine round_of ⟨i + 1, by omega, ?_⟩ ?_
          · simp -dsimp -implicitDefEqProofs (disch := first | omega | (simp only [List.length_append, List.length_cons, List.length_nil, List.length_take, List.length_drop]; omega)) only [hs4, e2, ↓aPre, aPost, oneW, allOne, retV, retVA, ↓reduceIte, reduceCtorEq, Nat.reduceAdd, Nat.reduceSub, Nat.reduceMul, Nat.reduceLT, Nat.reduceLeDiff, Nat.reduceEqDiff, Nat.reduceDiv, Nat.reduceMod, Nat.reducePow, Int.reduceAdd, Int.reduceSub, Int.reduceMul, Int.reduceLT, Int.reduceLE, Int.reduceEq, Int.reduceNe, Int.reducePow, Int.reduceToNat, Int.reduceNeg]
          · simp -dsimp -implicitDefEqProofs (disch := first | omega | (simp only [List.length_append, List.length_cons, List.length_nil, List.length_take, List.length_drop]; omega)) only [hs4, hs3, ↓aPre, aPost, oneW, allOne, retV, retVA, ↓reduceIte, reduceCtorEq, Nat.reduceAdd, Nat.reduceSub, Nat.reduceMul, Nat.reduceLT, Nat.reduceLeDiff, Nat.reduceEqDiff, Nat.reduceDiv, Nat.reduceMod, Nat.reducePow, Int.reduceAdd, Int.reduceSub, Int.reduceMul, Int.reduceLT, Int.reduceLE, Int.reduceEq, Int.reduceNe, Int.reducePow, Int.reduceToNat, Int.reduceNeg]
            omega
      · obtain rfl : i = 2 := by omega
        have hsb := sq0_b hqb2 2
        simp -dsimp -implicitDefEqProofs (disch := first | omega | (simp only [List.length_append, List.length_cons, List.length_nil, List.length_take, List.length_drop]; omega)) only [hs3, hgv, el, ↓aPre, aPost, oneW, allOne, retV, retVA, ↓reduceIte, reduceCtorEq, Nat.reduceAdd, Nat.reduceSub, Nat.reduceMul, Nat.reduceLT, Nat.reduceLeDiff, Nat.reduceEqDiff, Nat.reduceDiv, Nat.reduceMod, Nat.reducePow, Int.reduceAdd, Int.reduceSub, Int.reduceMul, Int.reduceLT, Int.reduceLE, Int.reduceEq, Int.reduceNe, Int.reducePow, Int.reduceToNat, Int.reduceNeg]
        refine round_of ⟨x + 1, by omega, ?_⟩ ?_
        · simp -dsimp -implicitDefEqProofs (disch := first | omega | (simp only [List.length_append, List.length_cons, List.length_nil, List.length_take, List.length_drop]; omega)) only [hs3, hgv, el, et, Nat.add_assoc, ↓aPre, aPost, oneW, allOne, retV, retVA, ↓reduceIte, reduceCtorEq, Nat.reduceAdd, Nat.reduceSub, Nat.reduceMul, Nat.reduceLT, Nat.reduceLeDiff, Nat.reduceEqDiff, Nat.reduceDiv, Nat.reduceMod, Nat.reducePow, Int.reduceAdd, Int.reduceSub, Int.reduceMul, Int.reduceLT, Int.reduceLE, Int.reduceEq, Int.reduceNe, Int.reducePow, Int.reduceToNat, Int.reduceNeg]
        · simp -dsimp -implicitDefEqProofs (disch := first | omega | (simp only [List.length_append, List.length_cons, List.length_nil, List.length_take, List.length_drop]; omega)) only [hs3, hs2, ↓aPre, aPost, oneW, allOne, retV, retVA, ↓reduceIte, reduceCtorEq, Nat.reduceAdd, Nat.reduceSub, Nat.reduceMul, Nat.reduceLT, Nat.reduceLeDiff, Nat.reduceEqDiff, Nat.reduceDiv, Nat.reduceMod, Nat.reducePow, Int.reduceAdd, Int.reduceSub, Int.reduceMul, Int.reduceLT, Int.reduceLE, Int.reduceEq, Int.reduceNe, Int.reducePow, Int.reduceToNat, Int.reduceNeg]
          omega
    · obtain rfl : x = w' := by omega
      simp -dsimp -implicitDefEqProofs (disch := first | omega | (simp only [List.length_append, List.length_cons, List.length_nil, List.length_take, List.length_drop]; omega)) only [hs2, ↓aPre, aPost, oneW, allOne, retV, retVA, ↓reduceIte, reduceCtorEq, Nat.reduceAdd, Nat.reduceSub, Nat.reduceMul, Nat.reduceLT, Nat.reduceLeDiff, Nat.reduceEqDiff, Nat.reduceDiv, Nat.reduceMod, Nat.reducePow, Int.reduceAdd, Int.reduceSub, Int.reduceMul, Int.reduceLT, Int.reduceLE, Int.reduceEq, Int.reduceNe, Int.reducePow, Int.reduceToNat, Int.reduceNeg]
      refine round_of ⟨y + 1, by omega, ?_⟩ ?_
      · simp -dsimp -implicitDefEqProofs (disch := first | omega | (simp only [List.length_append, List.length_cons, List.length_nil, List.length_take, List.length_drop]; omega)) only [hs2, Nat.add_mul, Nat.one_mul, ↓aPre, aPost, oneW, allOne, retV, retVA, ↓reduceIte, reduceCtorEq, Nat.reduceAdd, Nat.reduceSub, Nat.reduceMul, Nat.reduceLT, Nat.reduceLeDiff, Nat.reduceEqDiff, Nat.reduceDiv, Nat.reduceMod, Nat.reducePow, Int.reduceAdd, Int.reduceSub, Int.reduceMul, Int.reduceLT, Int.reduceLE, Int.reduceEq, Int.reduceNe, Int.reducePow, Int.reduceToNat, Int.reduceNeg]
      · simp -dsimp -implicitDefEqProofs (disch := first | omega | (simp only [List.length_append, List.length_cons, List.length_nil, List.length_take, List.length_drop]; omega)) only [hs2, hs, ↓aPre, aPost, oneW, allOne, retV, retVA, ↓reduceIte, reduceCtorEq, Nat.reduceAdd, Nat.reduceSub, Nat.reduceMul, Nat.reduceLT, Nat.reduceLeDiff, Nat.reduceEqDiff, Nat.reduceDiv, Nat.reduceMod, Nat.reducePow, Int.reduceAdd, Int.reduceSub, Int.reduceMul, Int.reduceLT, Int.reduceLE, Int.reduceEq, Int.reduceNe, Int.reducePow, Int.reduceToNat, Int.reduceNeg]
        omega
  · obtain rfl : y = h' := by omega
    have el := tab_len g (y * w')
    simp -dsimp -implicitDefEqProofs (disch := first | omega | (simp only [List.length_append, List.length_cons, List.length_nil, List.length_take, List.length_drop]; omega)) only [hs, el, ↓aPre, aPost, oneW, allOne, retV, retVA, ↓reduceIte, reduceCtorEq, Nat.reduceAdd, Nat.reduceSub, Nat.reduceMul, Nat.reduceLT, Nat.reduceLeDiff, Nat.reduceEqDiff, Nat.reduceDiv, Nat.reduceMod, Nat.reducePow, Int.reduceAdd, Int.reduceSub, Int.reduceMul, Int.reduceLT, Int.reduceLE, Int.reduceEq, Int.reduceNe, Int.reducePow, Int.reduceToNat, Int.reduceNeg]
    exact post_eq rfl
theorem halve_e_u32 {m : Int} {W H : Nat} {l : List Int} (r : Rt m W H l) (h0 : W = 0 ∨ H = 0) : Giv Try.prog 24 [gD .u32 W H l] (retV [gD .u32 0 0 [], .c (.int .i64 1)]) := by
  refine Giv.of mixed c24 (Nat.le_of_ble_eq_true rfl) ?_
  have hr := right_u32 r
  by_cases hw : W = 0
  · subst hw
    simp -dsimp -implicitDefEqProofs (disch := first | omega | (simp only [List.length_append, List.length_cons, List.length_nil, List.length_take, List.length_drop]; omega)) only [a24, gD, ↓aPre, aPost, oneW, allOne, retV, retVA, ↓reduceIte, reduceCtorEq, Nat.reduceAdd, Nat.reduceSub, Nat.reduceMul, Nat.reduceLT, Nat.reduceLeDiff, Nat.reduceEqDiff, Nat.reduceDiv, Nat.reduceMod, Nat.reducePow, Int.reduceAdd, Int.reduceSub, Int.reduceMul, Int.reduceLT, Int.reduceLE, Int.reduceEq, Int.reduceNe, Int.reducePow, Int.reduceToNat, Int.reduceNeg]
    refine call_giv hr ?_
    simp -dsimp -implicitDefEqProofs (disch := first | omega | (simp only [List.length_append, List.length_cons, List.length_nil, List.length_take, List.length_drop]; omega)) only [gD, Int.natCast_zero, ↓aPre, aPost, oneW, allOne, retV, retVA, ↓reduceIte, reduceCtorEq, Nat.reduceAdd, Nat.reduceSub, Nat.reduceMul, Nat.reduceLT, Nat.reduceLeDiff, Nat.reduceEqDiff, Nat.reduceDiv, Nat.reduceMod, Nat.reducePow, Int.reduceAdd, Int.reduceSub, Int.reduceMul, Int.reduceLT, Int.reduceLE, Int.reduceEq, Int.reduceNe, Int.reducePow, Int.reduceToNat, Int.reduceNeg]
    exact post_le (by repeat (first | exact leD.nil | exact leE.refl _ | exact leE.nil _ | refine leD.cons ?_ ?_ | refine leE.agg ?_))
  · obtain rfl : H = 0 := by omega
    have hw1 : ¬ (W : Int) = 0 := by omega
    simp -dsimp -implicitDefEqProofs (disch := first | omega | (simp only [List.length_append, List.length_cons, List.length_nil, List.length_take, List.length_drop]; omega)) only [a24, gD, ↓aPre, aPost, oneW, allOne, retV, retVA, ↓reduceIte, reduceCtorEq, Nat.reduceAdd, Nat.reduceSub, Nat.reduceMul, Nat.reduceLT, Nat.reduceLeDiff, Nat.reduceEqDiff, Nat.reduceDiv, Nat.reduceMod, Nat.reducePow, Int.reduceAdd, Int.reduceSub, Int.reduceMul, Int.reduceLT, Int.reduceLE, Int.reduceEq, Int.reduceNe, Int.reducePow, Int.reduceToNat, Int.reduceNeg]
    refine call_giv hr ?_
    simp -dsimp -implicitDefEqProofs (disch := first | omega | (simp only [List.length_append, List.length_cons, List.length_nil, List.length_take, List.length_drop]; omega)) only [gD, ibeq_f hw1, hw1, Int.natCast_zero, ↓aPre, aPost, oneW, allOne, retV, retVA, ↓reduceIte, reduceCtorEq, Nat.reduceAdd, Nat.reduceSub, Nat.reduceMul, Nat.reduceLT, Nat.reduceLeDiff, Nat.reduceEqDiff, Nat.reduceDiv, Nat.reduceMod, Nat.reducePow, Int.reduceAdd, Int.reduceSub, Int.reduceMul, Int.reduceLT, Int.reduceLE, Int.reduceEq, Int.reduceNe, Int.reducePow, Int.reduceToNat, Int.reduceNeg]
    exact post_le (by repeat (first | exact leD.nil | exact leE.refl _ | exact leE.nil _ | refine leD.cons ?_ ?_ | refine leE.agg ?_))
theorem halve_u32 {W H : Nat} {l : List Int} (r : Rt 4294967296 W H l) (hW : 1 ≤ W) (hH : 1 ≤ H) : Giv Try.prog 24 [gD .u32 W H l] (retV [gD .u32 ((W + 1) / 2 : Nat) ((H + 1) / 2 : Nat) (hvL W H l), .c (.int .i64 0)]) := by
  refine Giv.of mixed c24 (Nat.le_of_ble_eq_true rfl) ?_
  have r' := r.half (by decide)
  have hr := right_u32 r
  have hw1 : ¬ (W : Int) = 0 := by omega
  have hh1 : ¬ (H : Int) = 0 := by omega
  obtain ⟨h1, h2, h3, h4, h5⟩ := r
  obtain ⟨w', hw'⟩ : ∃ w', w' = (W + 1) / 2 := ⟨_, rfl⟩
  obtain ⟨h', hh'⟩ : ∃ h', h' = (H + 1) / 2 := ⟨_, rfl⟩
  have hwd : ((W : Int) + 1) / 2 = (w' : Int) := by omega
  have hhd : ((H : Int) + 1) / 2 = (h' : Int) := by omega
  have hwh := r'.p
  rw [hvL, ← hw', ← hh', grL]
  rw [← hw', ← hh', Nat.mul_comm] at hwh
  obtain ⟨g, hg⟩ : ∃ g, g = grF (hvG W H l) w' := ⟨_, rfl⟩
  rw [← hg]
  simp -dsimp -implicitDefEqProofs (disch := first | omega | (simp only [List.length_append, List.length_cons, List.length_nil, List.length_take, List.length_drop]; omega)) only [a24, gD, ↓aPre, aPost, oneW, allOne, retV, retVA, ↓reduceIte, reduceCtorEq, Nat.reduceAdd, Nat.reduceSub, Nat.reduceMul, Nat.reduceLT, Nat.reduceLeDiff, Nat.reduceEqDiff, Nat.reduceDiv, Nat.reduceMod, Nat.reducePow, Int.reduceAdd, Int.reduceSub, Int.reduceMul, Int.reduceLT, Int.reduceLE, Int.reduceEq, Int.reduceNe, Int.reducePow, Int.reduceToNat, Int.reduceNeg]
  refine call_giv hr ?_
  simp -dsimp -implicitDefEqProofs (disch := first | omega | (simp only [List.length_append, List.length_cons, List.length_nil, List.length_take, List.length_drop]; omega)) only [ibeq_f hw1, hw1, ibeq_f hh1, hh1, hwd, hhd, ↓aPre, aPost, oneW, allOne, retV, retVA, ↓reduceIte, reduceCtorEq, Nat.reduceAdd, Nat.reduceSub, Nat.reduceMul, Nat.reduceLT, Nat.reduceLeDiff, Nat.reduceEqDiff, Nat.reduceDiv, Nat.reduceMod, Nat.reducePow, Int.reduceAdd, Int.reduceSub, Int.reduceMul, Int.reduceLT, Int.reduceLE, Int.reduceEq, Int.reduceNe, Int.reducePow, Int.reduceToNat, Int.reduceNeg]
  refine loop_nilB 4 2 100 1 [.d (.c (.int .i64 w')), .d (.c (.int .i64 h')), .d (.c (.slice none 0 0))] (fun s => ∃ (y : Nat), y ≤ h' ∧ s.tm 1 = .ptr 1 0 ∧ s.hp 1 = some (.box [.d (.c (.int .i64 W)), .d (.c (.int .i64 H)), .d (.lst 1 (li .u32 l))]) ∧ s.tm 2 = .ptr 2 0 ∧ s.hp 2 = some (.box [.d (.c (.int .i64 0)), .d (.c (.int .i64 0)), .d (.c (.slice none 0 0))]) ∧ s.tm 4 = .ptr 4 0 ∧ s.tm 36 = .d (.c (.int .i64 h')) ∧ s.tm 37 = .d (.c (.int .i64 y)) ∧ s.hp 4 = some (.box [.d (.c (.int .i64 w')), .d (.c (.int .i64 h')), .sl 100 1 0 (y * w')]) ∧ s.hp 100 = some (.row 1 (li .u32 (tab g (y * w'))))) (fun s => h' - (avN (s.tm 37)).toNat) ?_ rfl (by decide) (by decide) ?_ ?_
  · simp -dsimp -implicitDefEqProofs (disch := first | omega | (simp only [List.length_append, List.length_cons, List.length_nil, List.length_take, List.length_drop]; omega)) only [↓aPre, aPost, oneW, allOne, retV, retVA, ↓reduceIte, reduceCtorEq, Nat.reduceAdd, Nat.reduceSub, Nat.reduceMul, Nat.reduceLT, Nat.reduceLeDiff, Nat.reduceEqDiff, Nat.reduceDiv, Nat.reduceMod, Nat.reducePow, Int.reduceAdd, Int.reduceSub, Int.reduceMul, Int.reduceLT, Int.reduceLE, Int.reduceEq, Int.reduceNe, Int.reducePow, Int.reduceToNat, Int.reduceNeg]
  · refine ⟨0, Nat.zero_le _, ?_⟩
    simp -dsimp -implicitDefEqProofs (disch := first | omega | (simp only [List.length_append, List.length_cons, List.length_nil, List.length_take, List.length_drop]; omega)) only [tab, Int.natCast_zero, Nat.zero_mul, List.set_cons_succ, List.set_cons_zero, ↓aPre, aPost, oneW, allOne, retV, retVA, ↓reduceIte, reduceCtorEq, Nat.reduceAdd, Nat.reduceSub, Nat.reduceMul, Nat.reduceLT, Nat.reduceLeDiff, Nat.reduceEqDiff, Nat.reduceDiv, Nat.reduceMod, Nat.reducePow, Int.reduceAdd, Int.reduceSub, Int.reduceMul, Int.reduceLT, Int.reduceLE, Int.reduceEq, Int.reduceNe, Int.reducePow, Int.reduceToNat, Int.reduceNeg]
  rintro s ⟨y, hy, hs⟩
  by_cases hlt : y < h'
  · simp -dsimp -implicitDefEqProofs (disch := first | omega | (simp only [List.length_append, List.length_cons, List.length_nil, List.length_take, List.length_drop]; omega)) only [hs, ↓aPre, aPost, oneW, allOne, retV, retVA, ↓reduceIte, reduceCtorEq, Nat.reduceAdd, Nat.reduceSub, Nat.reduceMul, Nat.reduceLT, Nat.reduceLeDiff, Nat.reduceEqDiff, Nat.reduceDiv, Nat.reduceMod, Nat.reducePow, Int.reduceAdd, Int.reduceSub, Int.reduceMul, Int.reduceLT, Int.reduceLE, Int.reduceEq, Int.reduceNe, Int.reducePow, Int.reduceToNat, Int.reduceNeg]
    refine loop_of (fun s => ∃ (x : Nat), x ≤ w' ∧ s.tm 1 = .ptr 1 0 ∧ s.hp 1 = some (.box [.d (.c (.int .i64 W)), .d (.c (.int .i64 H)), .d (.lst 1 (li .u32 l))]) ∧ s.tm 2 = .ptr 2 0 ∧ s.hp 2 = some (.box [.d (.c (.int .i64 0)), .d (.c (.int .i64 0)), .d (.c (.slice none 0 0))]) ∧ s.tm 4 = .ptr 4 0 ∧ s.tm 36 = .d (.c (.int .i64 h')) ∧ s.tm 37 = .d (.c (.int .i64 y)) ∧ s.tm 5 = .d (.c (.int .i64 y)) ∧ s.tm 41 = .d (.c (.int .i64 w')) ∧ s.tm 42 = .d (.c (.int .i64 x)) ∧ s.hp 4 = some (.box [.d (.c (.int .i64 w')), .d (.c (.int .i64 h')), .sl 100 1 0 (y * w' + x)]) ∧ s.hp 100 = some (.row 1 (li .u32 (tab g (y * w' + x))))) (fun s => w' - (avN (s.tm 42)).toNat) ?_ ?_
    · refine ⟨0, Nat.zero_le _, ?_⟩
      simp -dsimp -implicitDefEqProofs (disch := first | omega | (simp only [List.length_append, List.length_cons, List.length_nil, List.length_take, List.length_drop]; omega)) only [hs, Int.natCast_zero, ↓aPre, aPost, oneW, allOne, retV, retVA, ↓reduceIte, reduceCtorEq, Nat.reduceAdd, Nat.reduceSub, Nat.reduceMul, Nat.reduceLT, Nat.reduceLeDiff, Nat.reduceEqDiff, Nat.reduceDiv, Nat.reduceMod, Nat.reducePow, Int.reduceAdd, Int.reduceSub, Int.reduceMul, Int.reduceLT, Int.reduceLE, Int.reduceEq, Int.reduceNe, Int.reducePow, Int.reduceToNat, Int.reduceNeg]
    rintro s2 ⟨x, hx, hs2⟩
    have el := tab_len g (y * w' + x)
    by_cases hxl : x < w'
    · have hpl2 := place_lt hxl hlt
      obtain ⟨r0, hr0⟩ : ∃ r0, r0 = 2 * y := ⟨_, rfl⟩
      obtain ⟨r1, hr1⟩ : ∃ r1, r1 = min (2 * y + 1) (H - 1) := ⟨_, rfl⟩
      obtain ⟨c0, hc0⟩ : ∃ c0, c0 = 2 * x := ⟨_, rfl⟩
      obtain ⟨c1, hc1⟩ : ∃ c1, c1 = min (2 * x + 1) (W - 1) := ⟨_, rfl⟩
      have er0 : 2 * (y : Int) = (r0 : Int) := by omega
      have er1 : (if (H : Int) - 1 < (r0 : Int) + 1 then (H : Int) - 1 else (r0 : Int) + 1) = (r1 : Int) := by split <;> omega
      have ec0 : 2 * (x : Int) = (c0 : Int) := by omega
      have ec1 : (if (W : Int) - 1 < (c0 : Int) + 1 then (W : Int) - 1 else (c0 : Int) + 1) = (c1 : Int) := by split <;> omega
      obtain ⟨q, hq⟩ : ∃ q : Nat → Nat → Int, q = fun i j => l.getD (pk r0 r1 i * W + pk c0 c1 j) 0 := ⟨_, rfl⟩
      have hqb : ∀ i j, 0 ≤ q i j ∧ q i j < 4294967296 := fun i j => by rw [hq]; exact h5.get (by decide) _
      have hqb2 : ∀ i j, 0 ≤ q i j ∧ q i j < 4294967296 := fun i j => by have := hqb i j; omega
      have hgv : sq0 q 2 / 4 = g (y * w' + x) := by
        rw [hg, grF_at _ hxl, hvG]
        unfold cl
        rw [show min (2 * y) (H - 1) = r0 by omega, show min (2 * y + 1) (H - 1) = r1 by omega, show min (2 * x) (W - 1) = c0 by omega, show min (2 * x + 1) (W - 1) = c1 by omega]
        simp only [sq0, hq, pk, if_true, if_neg (show ¬ (1 : Nat) = 0 by decide)]
        omega
      have hgb : 0 ≤ g (y * w' + x) ∧ g (y * w' + x) < 4294967296 := by rw [hg, grF_at _ hxl]; exact hvG_in h5 (by decide) _ _
      have et : tab g (y * w' + (x + 1)) = tab g (y * w' + x) ++ [g (y * w' + x)] := rfl
      simp -dsimp -implicitDefEqProofs (disch := first | omega | (simp only [List.length_append, List.length_cons, List.length_nil, List.length_take, List.length_drop]; omega)) only [hs2, er0, er1, ↓aPre, aPost, oneW, allOne, retV, retVA, ↓reduceIte, reduceCtorEq, Nat.reduceAdd, Nat.reduceSub, Nat.reduceMul, Nat.reduceLT, Nat.reduceLeDiff, Nat.reduceEqDiff, Nat.reduceDiv, Nat.reduceMod, Nat.reducePow, Int.reduceAdd, Int.reduceSub, Int.reduceMul, Int.reduceLT, Int.reduceLE, Int.reduceEq, Int.reduceNe, Int.reducePow, Int.reduceToNat, Int.reduceNeg]
      refine loop_of (fun s => ∃ (i : Nat), i ≤ 2 ∧ s.tm 1 = .ptr 1 0 ∧ s.hp 1 = some (.box [.d (.c (.int .i64 W)), .d (.c (.int .i64 H)), .d (.lst 1 (li .u32 l))]) ∧ s.tm 2 = .ptr 2 0 ∧ s.hp 2 = some (.box [.d (.c (.int .i64 0)), .d (.c (.int .i64 0)), .d (.c (.slice none 0 0))]) ∧ s.tm 4 = .ptr 4 0 ∧ s.tm 36 = .d (.c (.int .i64 h')) ∧ s.tm 37 = .d (.c (.int .i64 y)) ∧ s.tm 5 = .d (.c (.int .i64 y)) ∧ s.tm 41 = .d (.c (.int .i64 w')) ∧ s.tm 42 = .d (.c (.int .i64 x)) ∧ s.hp 4 = some (.box [.d (.c (.int .i64 w')), .d (.c (.int .i64 h')), .sl 100 1 0 (y * w' + x)]) ∧ s.hp 100 = some (.row 1 (li .u32 (tab g (y * w' + x)))) ∧ s.tm 6 = .d (.c (.int .i64 x)) ∧ s.tm 54 = .d (.lst 1 (li .i64 [(r0 : Int), r1])) ∧ s.tm 55 = .d (.c (.int .i64 2)) ∧ s.tm 56 = .d (.c (.int .i64 i)) ∧ s.tm 7 = .d (.c (.int .u64 (sq0 q i)))) (fun s => 2 - (avN (s.tm 56)).toNat) ?_ ?_
      · refine ⟨0, Nat.zero_le _, ?_⟩
        simp -dsimp -implicitDefEqProofs (disch := first | omega | (simp only [List.length_append, List.length_cons, List.length_nil, List.length_take, List.length_drop]; omega)) only [hs2, er0, er1, sq0, Int.natCast_zero, ↓aPre, aPost, oneW, allOne, retV, retVA, ↓reduceIte, reduceCtorEq, Nat.reduceAdd, Nat.reduceSub, Nat.reduceMul, Nat.reduceLT, Nat.reduceLeDiff, Nat.reduceEqDiff, Nat.reduceDiv, Nat.reduceMod, Nat.reducePow, Int.reduceAdd, Int.reduceSub, Int.reduceMul, Int.reduceLT, Int.reduceLE, Int.reduceEq, Int.reduceNe, Int.reducePow, Int.reduceToNat, Int.reduceNeg]
      rintro s3 ⟨i, hi, hs3⟩
      by_cases hil : i < 2
      · have eri := pk_at r0 r1 hil
        have hri := pk_le (show r0 < H by omega) (show r1 < H by omega) i
        simp -dsimp -implicitDefEqProofs (disch := first | omega | (simp only [List.length_append, List.length_cons, List.length_nil, List.length_take, List.length_drop]; omega)) only [hs3, eri, ec0, ec1, ↓aPre, aPost, oneW, allOne, retV, retVA, ↓reduceIte, reduceCtorEq, Nat.reduceAdd, Nat.reduceSub, Nat.reduceMul, Nat.reduceLT, Nat.reduceLeDiff, Nat.reduceEqDiff, Nat.reduceDiv, Nat.reduceMod, Nat.reducePow, Int.reduceAdd, Int.reduceSub, Int.reduceMul, Int.reduceLT, Int.reduceLE, Int.reduceEq, Int.reduceNe, Int.reducePow, Int.reduceToNat, Int.reduceNeg]
        refine loop_of (fun s => ∃ (j : Nat), j ≤ 2 ∧ s.tm 1 = .ptr 1 0 ∧ s.hp 1 = some (.box [.d (.c (.int .i64 W)), .d (.c (.int .i64 H)), .d (.lst 1 (li .u32 l))]) ∧ s.tm 2 = .ptr 2 0 ∧ s.hp 2 = some (.box [.d (.c (.int .i64 0)), .d (.c (.int .i64 0)), .d (.c (.slice none 0 0))]) ∧ s.tm 4 = .ptr 4 0 ∧ s.tm 36 = .d (.c (.int .i64 h')) ∧ s.tm 37 = .d (.c (.int .i64 y)) ∧ s.tm 5 = .d (.c (.int .i64 y)) ∧ s.tm 41 = .d (.c (.int .i64 w')) ∧ s.tm 42 = .d (.c (.int .i64 x)) ∧ s.hp 4 = some (.box [.d (.c (.int .i64 w')), .d (.c (.int .i64 h')), .sl 100 1 0 (y * w' + x)]) ∧ s.hp 100 = some (.row 1 (li .u32 (tab g (y * w' + x)))) ∧ s.tm 6 = .d (.c (.int .i64 x)) ∧ s.tm 54 = .d (.lst 1 (li .i64 [(r0 : Int), r1])) ∧ s.tm 55 = .d (.c (.int .i64 2)) ∧ s.tm 56 = .d (.c (.int .i64 i)) ∧ s.tm 9 = .d (.c (.int .i64 (pk r0 r1 i))) ∧ s.tm 69 = .d (.lst 1 (li .i64 [(c0 : Int), c1])) ∧ s.tm 70 = .d (.c (.int .i64 2)) ∧ s.tm 71 = .d (.c (.int .i64 j)) ∧ s.tm 7 = .d (.c (.int .u64 (sqj q i j)))) (fun s => 2 - (avN (s.tm 71)).toNat) ?_ ?_
        · refine ⟨0, Nat.zero_le _, ?_⟩
          simp -dsimp -implicitDefEqProofs (disch := first | omega | (simp only [List.length_append, List.length_cons, List.length_nil, List.length_take, List.length_drop]; omega)) only [hs3, eri, ec0, ec1, sqj, Int.natCast_zero, ↓aPre, aPost, oneW, allOne, retV, retVA, ↓reduceIte, reduceCtorEq, Nat.reduceAdd, Nat.reduceSub, Nat.reduceMul, Nat.reduceLT, Nat.reduceLeDiff, Nat.reduceEqDiff, Nat.reduceDiv, Nat.reduceMod, Nat.reducePow, Int.reduceAdd, Int.reduceSub, Int.reduceMul, Int.reduceLT, Int.reduceLE, Int.reduceEq, Int.reduceNe, Int.reducePow, Int.reduceToNat, Int.reduceNeg]
        rintro s4 ⟨j, hj, hs4⟩
        by_cases hjl : j < 2
        · have ecj := pk_at c0 c1 hjl
          have hcj := pk_le (show c0 < W by omega) (show c1 < W by omega) j
          have hpl := place_lt hcj hri
          have hWH : H * W ≤ 4194304 := by rw [Nat.mul_comm]; exact h3
          have hll : l.length = H * W := by rw [h4, Nat.mul_comm]
          have hqe : q i j = l.getD (pk r0 r1 i * W + pk c0 c1 j) 0 := by rw [hq]
          obtain ⟨a, ha⟩ : ∃ a, a = pk r0 r1 i := ⟨_, rfl⟩
          obtain ⟨c, hc⟩ : ∃ c, c = pk c0 c1 j := ⟨_, rfl⟩
          rw [← ha] at hs4 hpl hqe
          rw [← hc] at ecj hcj hpl hqe
          obtain ⟨p, hp⟩ : ∃ p : Nat, p = a * W := ⟨_, rfl⟩
          have hp2 : (a : Int) * (W : Int) = p := by rw [hp, Int.natCast_mul]
          rw [← hp] at hpl hqe
          have e1 : ((p : Int) + c).toNat = p + c := by omega
          have hsb := sqj_b hqb2 i j
          have hqz := hqb i j
          simp -dsimp -implicitDefEqProofs (disch := first | omega | (simp only [List.length_append, List.length_cons, List.length_nil, List.length_take, List.length_drop]; omega)) only [hs4, ecj, hp2, e1, ← hqe, ↓aPre, aPost, oneW, allOne, retV, retVA, ↓reduceIte, reduceCtorEq, Nat.reduceAdd, Nat.reduceSub, Nat.reduceMul, Nat.reduceLT, Nat.reduceLeDiff, Nat.reduceEqDiff, Nat.reduceDiv, Nat.reduceMod, Nat.reducePow, Int.reduceAdd, Int.reduceSub, Int.reduceMul, Int.reduceLT, Int.reduceLE, Int.reduceEq, Int.reduceNe, Int.reducePow, Int.reduceToNat, Int.reduceNeg]
          refine round_of ⟨j + 1, by omega, ?_⟩ ?_
          · simp -dsimp -implicitDefEqProofs (disch := first | omega | (simp only [List.length_append, List.length_cons, List.length_nil, List.length_take, List.length_drop]; omega)) only [hs4, ecj, hp2, e1, ← hqe, sqj, ha, ↓aPre, aPost, oneW, allOne, retV, retVA, ↓reduceIte, reduceCtorEq, Nat.reduceAdd, Nat.reduceSub, Nat.reduceMul, Nat.reduceLT, Nat.reduceLeDiff, Nat.reduceEqDiff, Nat.reduceDiv, Nat.reduceMod, Nat.reducePow, Int.reduceAdd, Int.reduceSub, Int.reduceMul, Int.reduceLT, Int.reduceLE, Int.reduceEq, Int.reduceNe, Int.reducePow, Int.reduceToNat, Int.reduceNeg]
          · simp -dsimp -implicitDefEqProofs (disch := first | omega | (simp only [List.length_append, List.length_cons, List.length_nil, List.length_take, List.length_drop]; omega)) only [hs4, ↓aPre, aPost, oneW, allOne, retV, retVA, ↓reduceIte, reduceCtorEq, Nat.reduceAdd, Nat.reduceSub, Nat.reduceMul, Nat.reduceLT, Nat.reduceLeDiff, Nat.reduceEqDiff, Nat.reduceDiv, Nat.reduceMod, Nat.reducePow, Int.reduceAdd, Int.reduceSub, Int.reduceMul, Int.reduceLT, Int.reduceLE, Int.reduceEq, Int.reduceNe, Int.reducePow, Int.reduceToNat, Int.reduceNeg]
            omega
        · obtain rfl : j = 2 := by omega
          have e2 : sqj q i 2 = sq0 q (i + 1) := rfl
          simp -dsimp -implicitDefEqProofs (disch := first | omega | (simp only [List.length_append, List.length_cons, List.length_nil, List.length_take, List.length_drop]; omega)) only [hs4, e2, ↓aPre, aPost, oneW, allOne, retV, retVA, ↓reduceIte, reduceCtorEq, Nat.reduceAdd, Nat.reduceSub, Nat.reduceMul, Nat.reduceLT, Nat.reduceLeDiff, Nat.reduceEqDiff, Nat.reduceDiv, Nat.reduceMod, Nat.reducePow, Int.reduceAdd, Int.reduceSub, Int.reduceMul, Int.reduceLT, Int.reduceLE, Int.reduceEq, Int.reduceNe, Int.reducePow, Int.reduceToNat, Int.reduceNeg]
          refine round_of ⟨i + 1, by omega, ?_⟩ ?_
          · simp -dsimp -implicitDefEqProofs (disch := first | omega | (simp only [List.length_append, List.length_cons, List.length_nil, List.length_take, List.length_drop]; omega)) only [hs4, e2, ↓aPre, aPost, oneW, allOne, retV, retVA, ↓reduceIte, reduceCtorEq, Nat.reduceAdd, Nat.reduceSub, Nat.reduceMul, Nat.reduceLT, Nat.reduceLeDiff, Nat.reduceEqDiff, Nat.reduceDiv, Nat.reduceMod, Nat.reducePow, Int.reduceAdd, Int.reduceSub, Int.reduceMul, Int.reduceLT, Int.reduceLE, Int.reduceEq, Int.reduceNe, Int.reducePow, Int.reduceToNat, Int.reduceNeg]
          · simp -dsimp -implicitDefEqProofs (disch := first | omega | (simp only [List.length_append, List.length_cons, List.length_nil, List.length_take, List.length_drop]; omega)) only [hs4, hs3, ↓aPre, aPost, oneW, allOne, retV, retVA, ↓reduceIte, reduceCtorEq, Nat.reduceAdd, Nat.reduceSub, Nat.reduceMul, Nat.reduceLT, Nat.reduceLeDiff, Nat.reduceEqDiff, Nat.reduceDiv, Nat.reduceMod, Nat.reducePow, Int.reduceAdd, Int.reduceSub, Int.reduceMul, Int.reduceLT, Int.reduceLE, Int.reduceEq, Int.reduceNe, Int.reducePow, Int.reduceToNat, Int.reduceNeg]
            omega
      · obtain rfl : i = 2 := by omega
        have hsb := sq0_b hqb2 2
        simp -dsimp -implicitDefEqProofs (disch := first | omega | (simp only [List.length_append, List.length_cons, List.length_nil, List.length_take, List.length_drop]; omega)) only [hs3, hgv, el, ↓aPre, aPost, oneW, allOne, retV, retVA, ↓reduceIte, reduceCtorEq, Nat.reduceAdd, Nat.reduceSub, Nat.reduceMul, Nat.reduceLT, Nat.reduceLeDiff, Nat.reduceEqDiff, Nat.reduceDiv, Nat.reduceMod, Nat.reducePow, Int.reduceAdd, Int.reduceSub, Int.reduceMul, Int.reduceLT, Int.reduceLE, Int.reduceEq, Int.reduceNe, Int.reducePow, Int.reduceToNat, Int.reduceNeg]
        refine round_of ⟨x + 1, by omega, ?_⟩ ?_
        · simp -dsimp -implicitDefEqProofs (disch := first | omega | (simp only [List.length_append, List.length_cons, List.length_nil, List.length_take, List.length_drop]; omega)) only [hs3, hgv, el, et, Nat.add_assoc, ↓aPre, aPost, oneW, allOne, retV, retVA, ↓reduceIte, reduceCtorEq, Nat.reduceAdd, Nat.reduceSub, Nat.reduceMul, Nat.reduceLT, Nat.reduceLeDiff, Nat.reduceEqDiff, Nat.reduceDiv, Nat.reduceMod, Nat.reducePow, Int.reduceAdd, Int.reduceSub, Int.reduceMul, Int.reduceLT, Int.reduceLE, Int.reduceEq, Int.reduceNe, Int.reducePow, Int.reduceToNat, Int.reduceNeg]
        · simp -dsimp -implicitDefEqProofs (disch := first | omega | (simp only [List.length_append, List.length_cons, List.length_nil, List.length_take, List.length_drop]; omega)) only [hs3, hs2, ↓aPre, aPost, oneW, allOne, retV, retVA, ↓reduceIte, reduceCtorEq, Nat.reduceAdd, Nat.reduceSub, Nat.reduceMul, Nat.reduceLT, Nat.reduceLeDiff, Nat.reduceEqDiff, Nat.reduceDiv, Nat.reduceMod, Nat.reducePow, Int.reduceAdd, Int.reduceSub, Int.reduceMul, Int.reduceLT, Int.reduceLE, Int.reduceEq, Int.reduceNe, Int.reducePow, Int.reduceToNat, Int.reduceNeg]
          omega
    · obtain rfl : x = w' := by omega
      simp -dsimp -implicitDefEqProofs (disch := first | omega | (simp only [List.length_append, List.length_cons, List.length_nil, List.length_take, List.length_drop]; omega)) only [hs2, ↓aPre, aPost, oneW, allOne, retV, retVA, ↓reduceIte, reduceCtorEq, Nat.reduceAdd, Nat.reduceSub, Nat.reduceMul, Nat.reduceLT, Nat.reduceLeDiff, Nat.reduceEqDiff, Nat.reduceDiv, Nat.reduceMod, Nat.reducePow, Int.reduceAdd, Int.reduceSub, Int.reduceMul, Int.reduceLT, Int.reduceLE, Int.reduceEq, Int.reduceNe, Int.reducePow, Int.reduceToNat, Int.reduceNeg]
      refine round_of ⟨y + 1, by omega, ?_⟩ ?_
      · simp -dsimp -implicitDefEqProofs (disch := first | omega | (simp only [List.length_append, List.length_cons, List.length_nil, List.length_take, List.length_drop]; omega)) only [hs2, Nat.add_mul, Nat.one_mul, ↓aPre, aPost, oneW, allOne, retV, retVA, ↓reduceIte, reduceCtorEq, Nat.reduceAdd, Nat.reduceSub, Nat.reduceMul, Nat.reduceLT, Nat.reduceLeDiff, Nat.reduceEqDiff, Nat.reduceDiv, Nat.reduceMod, Nat.reducePow, Int.reduceAdd, Int.reduceSub, Int.reduceMul, Int.reduceLT, Int.reduceLE, Int.reduceEq, Int.reduceNe, Int.reducePow, Int.reduceToNat, Int.reduceNeg]
      · simp -dsimp -implicitDefEqProofs (disch := first | omega | (simp only [List.length_append, List.length_cons, List.length_nil, List.length_take, List.length_drop]; omega)) only [hs2, hs, ↓aPre, aPost, oneW, allOne, retV, retVA, ↓reduceIte, reduceCtorEq, Nat.reduceAdd, Nat.reduceSub, Nat.reduceMul, Nat.reduceLT, Nat.reduceLeDiff, Nat.reduceEqDiff, Nat.reduceDiv, Nat.reduceMod, Nat.reducePow, Int.reduceAdd, Int.reduceSub, Int.reduceMul, Int.reduceLT, Int.reduceLE, Int.reduceEq, Int.reduceNe, Int.reducePow, Int.reduceToNat, Int.reduceNeg]
        omega
  · obtain rfl : y = h' := by omega
    have el := tab_len g (y * w')
    simp -dsimp -implicitDefEqProofs (disch := first | omega | (simp only [List.length_append, List.length_cons, List.length_nil, List.length_take, List.length_drop]; omega)) only [hs, el, ↓aPre, aPost, oneW, allOne, retV, retVA, ↓reduceIte, reduceCtorEq, Nat.reduceAdd, Nat.reduceSub, Nat.reduceMul, Nat.reduceLT, Nat.reduceLeDiff, Nat.reduceEqDiff, Nat.reduceDiv, Nat.reduceMod, Nat.reducePow, Int.reduceAdd, Int.reduceSub, Int.reduceMul, Int.reduceLT, Int.reduceLE, Int.reduceEq, Int.reduceNe, Int.reducePow, Int.reduceToNat, Int.reduceNeg]
    exact post_eq rfl
theorem halve_e_u16 {m : Int} {W H : Nat} {l : List Int} (r : Rt m W H l) (h0 : W = 0 ∨ H = 0) : Giv Try.prog 27 [gD .u16 W H l] (retV [gD .u16 0 0 [], .c (.int .i64 1)]) := by
  refine Giv.of mixed c27 (Nat.le_of_ble_eq_true rfl) ?_
  have hr := right_u16 r
  by_cases hw : W = 0
  · subst hw
    simp -dsimp -implicitDefEqProofs (disch := first | omega | (simp only [List.length_append, List.length_cons, List.length_nil, List.length_take, List.length_drop]; omega)) only [a27, gD, ↓aPre, aPost, oneW, allOne, retV, retVA, ↓reduceIte, reduceCtorEq, Nat.reduceAdd, Nat.reduceSub, Nat.reduceMul, Nat.reduceLT, Nat.reduceLeDiff, Nat.reduceEqDiff, Nat.reduceDiv, Nat.reduceMod, Nat.reducePow, Int.reduceAdd, Int.reduceSub, Int.reduceMul, Int.reduceLT, Int.reduceLE, Int.reduceEq, Int.reduceNe, Int.reducePow, Int.reduceToNat, Int.reduceNeg]
    refine call_giv hr ?_
    simp -dsimp -implicitDefEqProofs (disch := first | omega | (simp only [List.length_append, List.length_cons, List.length_nil, List.length_take, List.length_drop]; omega)) only [gD, Int.natCast_zero, ↓aPre, aPost, oneW, allOne, retV, retVA, ↓reduceIte, reduceCtorEq, Nat.reduceAdd, Nat.reduceSub, Nat.reduceMul, Nat.reduceLT, Nat.reduceLeDiff, Nat.reduceEqDiff, Nat.reduceDiv, Nat.reduceMod, Nat.reducePow, Int.reduceAdd, Int.reduceSub, Int.reduceMul, Int.reduceLT, Int.reduceLE, Int.reduceEq, Int.reduceNe, Int.reducePow, Int.reduceToNat, Int.reduceNeg]
    exact post_le (by repeat (first | exact leD.nil | exact leE.refl _ | exact leE.nil _ | refine leD.cons ?_ ?_ | refine leE.agg ?_))
  · obtain rfl : H = 0 := by omega
    have hw1 : ¬ (W : Int) = 0 := by omega
    simp -dsimp -implicitDefEqProofs (disch := first | omega | (simp only [List.length_append, List.length_cons, List.length_nil, List.length_take, List.length_drop]; omega)) only [a27, gD, ↓aPre, aPost, oneW, allOne, retV, retVA, ↓reduceIte, reduceCtorEq, Nat.reduceAdd, Nat.reduceSub, Nat.reduceMul, Nat.reduceLT, Nat.reduceLeDiff, Nat.reduceEqDiff, Nat.reduceDiv, Nat.reduceMod, Nat.reducePow, Int.reduceAdd, Int.reduceSub, Int.reduceMul, Int.reduceLT, Int.reduceLE, Int.reduceEq, Int.reduceNe, Int.reducePow, Int.reduceToNat, Int.reduceNeg]
    refine call_giv hr ?_
    simp -dsimp -implicitDefEqProofs (disch := first | omega | (simp only [List.length_append, List.length_cons, List.length_nil, List.length_take, List.length_drop]; omega)) only [gD, ibeq_f hw1, hw1, Int.natCast_zero, ↓aPre, aPost, oneW, allOne, retV, retVA, ↓reduceIte, reduceCtorEq, Nat.reduceAdd, Nat.reduceSub, Nat.reduceMul, Nat.reduceLT, Nat.reduceLeDiff, Nat.reduceEqDiff, Nat.reduceDiv, Nat.reduceMod, Nat.reducePow, Int.reduceAdd, Int.reduceSub, Int.reduceMul, Int.reduceLT, Int.reduceLE, Int.reduceEq, Int.reduceNe, Int.reducePow, Int.reduceToNat, Int.reduceNeg]
    exact post_le (by repeat (first | exact leD.nil | exact leE.refl _ | exact leE.nil _ | refine leD.cons ?_ ?_ | refine leE.agg ?_))
theorem halve_u16 {W H : Nat} {l : List Int} (r : Rt 65536 W H l) (hW : 1 ≤ W) (hH : 1 ≤ H) : Giv Try.prog 27 [gD .u16 W H l] (retV [gD .u16 ((W + 1) / 2 : Nat) ((H + 1) / 2 : Nat) (hvL W H l), .c (.int .i64 0)]) := by
  refine Giv.of mixed c27 (Nat.le_of_ble_eq_true rfl) ?_
  have r' := r.half (by decide)
  have hr := right_u16 r
  have hw1 : ¬ (W : Int) = 0 := by omega
  have hh1 : ¬ (H : Int) = 0 := by omega
  obtain ⟨h1, h2, h3, h4, h5⟩ := r
  obtain ⟨w', hw'⟩ : ∃ w', w' = (W + 1) / 2 := ⟨_, rfl⟩
  obtain ⟨h', hh'⟩ : ∃ h', h' = (H + 1) / 2 := ⟨_, rfl⟩
  have hwd : ((W : Int) + 1) / 2 = (w' : Int) := by omega
  have hhd : ((H : Int) + 1) / 2 = (h' : Int) := by omega
  have hwh := r'.p
  rw [hvL, ← hw', ← hh', grL]
  rw [← hw', ← hh', Nat.mul_comm] at hwh
  obtain ⟨g, hg⟩ : ∃ g, g = grF (hvG W H l) w' := ⟨_, rfl⟩
  rw [← hg]
  simp -dsimp -implicitDefEqProofs (disch := first | omega | (simp only [List.length_append, List.length_cons, List.length_nil, List.length_take, List.length_drop]; omega)) only [a27, gD, ↓aPre, aPost, oneW, allOne, retV, retVA, ↓reduceIte, reduceCtorEq, Nat.reduceAdd, Nat.reduceSub, Nat.reduceMul, Nat.reduceLT, Nat.reduceLeDiff, Nat.reduceEqDiff, Nat.reduceDiv, Nat.reduceMod, Nat.reducePow, Int.reduceAdd, Int.reduceSub, Int.reduceMul, Int.reduceLT, Int.reduceLE, Int.reduceEq, Int.reduceNe, Int.reducePow, Int.reduceToNat, Int.reduceNeg]
  refine call_giv hr ?_
  simp -dsimp -implicitDefEqProofs (disch := first | omega | (simp only [List.length_append, List.length_cons, List.length_nil, List.length_take, List.length_drop]; omega)) only [ibeq_f hw1, hw1, ibeq_f hh1, hh1, hwd, hhd, ↓aPre, aPost, oneW, allOne, retV, retVA, ↓reduceIte, reduceCtorEq, Nat.reduceAdd, Nat.reduceSub, Nat.reduceMul, Nat.reduceLT, Nat.reduceLeDiff, Nat.reduceEqDiff, Nat.reduceDiv, Nat.reduceMod, Nat.reducePow, Int.reduceAdd, Int.reduceSub, Int.reduceMul, Int.reduceLT, Int.reduceLE, Int.reduceEq, Int.reduceNe, Int.reducePow, Int.reduceToNat, Int.reduceNeg]
  refine loop_nilB 4 2 100 1 [.d (.c (.int .i64 w')), .d (.c (.int .i64 h')), .d (.c (.slice none 0 0))] (fun s => ∃ (y : Nat), y ≤ h' ∧ s.tm 1 = .ptr 1 0 ∧ s.hp 1 = some (.box [.d (.c (.int .i64 W)), .d (.c (.int .i64 H)), .d (.lst 1 (li .u16 l))]) ∧ s.tm 2 = .ptr 2 0 ∧ s.hp 2 = some (.box [.d (.c (.int .i64 0)), .d (.c (.int .i64 0)), .d (.c (.slice none 0 0))]) ∧ s.tm 4 = .ptr 4 0 ∧ s.tm 36 = .d (.c (.int .i64 h')) ∧ s.tm 37 = .d (.c (.int .i64 y)) ∧ s.hp 4 = some (.box [.d (.c (.int .i64 w')), .d (.c (.int .i64 h')), .sl 100 1 0 (y * w')]) ∧ s.hp 100 = some (.row 1 (li .u16 (tab g (y * w'))))) (fun s => h' - (avN (s.tm 37)).toNat) ?_ rfl (by decide) (by decide) ?_ ?_
  · simp -dsimp -implicitDefEqProofs (disch := first | omega | (simp only [List.length_append, List.length_cons, List.length_nil, List.length_take, List.length_drop]; omega)) only [↓aPre, aPost, oneW, allOne, retV, retVA, ↓reduceIte, reduceCtorEq, Nat.reduceAdd, Nat.reduceSub, Nat.reduceMul, Nat.reduceLT, Nat.reduceLeDiff, Nat.reduceEqDiff, Nat.reduceDiv, Nat.reduceMod, Nat.reducePow, Int.reduceAdd, Int.reduceSub, Int.reduceMul, Int.reduceLT, Int.reduceLE, Int.reduceEq, Int.reduceNe, Int.reducePow, Int.reduceToNat, Int.reduceNeg]
  · refine ⟨0, Nat.zero_le _, ?_⟩
    simp -dsimp -implicitDefEqProofs (disch := first | omega | (simp only [List.length_append, List.length_cons, List.length_nil, List.length_take, List.length_drop]; omega)) only [tab, Int.natCast_zero, Nat.zero_mul, List.set_cons_succ, List.set_cons_zero, ↓aPre, aPost, oneW, allOne, retV, retVA, ↓reduceIte, reduceCtorEq, Nat.reduceAdd, Nat.reduceSub, Nat.reduceMul, Nat.reduceLT, Nat.reduceLeDiff, Nat.reduceEqDiff, Nat.reduceDiv, Nat.reduceMod, Nat.reducePow, Int.reduceAdd, Int.reduceSub, Int.reduceMul, Int.reduceLT, Int.reduceLE, Int.reduceEq, Int.reduceNe, Int.reducePow, Int.reduceToNat, Int.reduceNeg]
  rintro s ⟨y, hy, hs⟩
  by_cases hlt : y < h'
  · simp -dsimp -implicitDefEqProofs (disch := first | omega | (simp only [List.length_append, List.length_cons, List.length_nil, List.length_take, List.length_drop]; omega)) only [hs, ↓aPre, aPost, oneW, allOne, retV, retVA, ↓reduceIte, reduceCtorEq, Nat.reduceAdd, Nat.reduceSub, Nat.reduceMul, Nat.reduceLT, Nat.reduceLeDiff, Nat.reduceEqDiff, Nat.reduceDiv, Nat.reduceMod, Nat.reducePow, Int.reduceAdd, Int.reduceSub, Int.reduceMul, Int.reduceLT, Int.reduceLE, Int.reduceEq, Int.reduceNe, Int.reducePow, Int.reduceToNat, Int.reduceNeg]
    refine loop_of (fun s => ∃ (x : Nat), x ≤ w' ∧ s.tm 1 = .ptr 1 0 ∧ s.hp 1 = some (.box [.d (.c (.int .i64 W)), .d (.c (.int .i64 H)), .d (.lst 1 (li .u16 l))]) ∧ s.tm 2 = .ptr 2 0 ∧ s.hp 2 = some (.box [.d (.c (.int .i64 0)), .d (.c (.int .i64 0)), .d (.c (.slice none 0 0))]) ∧ s.tm 4 = .ptr 4 0 ∧ s.tm 36 = .d (.c (.int .i64 h')) ∧ s.tm 37 = .d (.c (.int .i64 y)) ∧ s.tm 5 = .d (.c (.int .i64 y)) ∧ s.tm 41 = .d (.c (.int .i64 w')) ∧ s.tm 42 = .d (.c (.int .i64 x)) ∧ s.hp 4 = some (.box [.d (.c (.int .i64 w')), .d (.c (.int .i64 h')), .sl 100 1 0 (y * w' + x)]) ∧ s.hp 100 = some (.row 1 (li .u16 (tab g (y * w' + x))))) (fun s => w' - (avN (s.tm 42)).toNat) ?_ ?_
    · refine ⟨0, Nat.zero_le _, ?_⟩
      simp -dsimp -implicitDefEqProofs (disch := first | omega | (simp only [List.length_append, List.length_cons, List.length_nil, List.length_take, List.length_drop]; omega)) only [hs, Int.natCast_zero, ↓aPre, aPost, oneW, allOne, retV, retVA, ↓reduceIte, reduceCtorEq, Nat.reduceAdd, Nat.reduceSub, Nat.reduceMul, Nat.reduceLT, Nat.reduceLeDiff, Nat.reduceEqDiff, Nat.reduceDiv, Nat.reduceMod, Nat.reducePow, Int.reduceAdd, Int.reduceSub, Int.reduceMul, Int.reduceLT, Int.reduceLE, Int.reduceEq, Int.reduceNe, Int.reducePow, Int.reduceToNat, Int.reduceNeg]
    rintro s2 ⟨x, hx, hs2⟩
    have el := tab_len g (y * w' + x)
    by_cases hxl : x < w'
    · have hpl2 := place_lt hxl hlt
      obtain ⟨r0, hr0⟩ : ∃ r0, r0 = 2 * y := ⟨_, rfl⟩
      obtain ⟨r1, hr1⟩ : ∃ r1, r1 = min (2 * y + 1) (H - 1) := ⟨_, rfl⟩
      obtain ⟨c0, hc0⟩ : ∃ c0, c0 = 2 * x := ⟨_, rfl⟩
      obtain ⟨c1, hc1⟩ : ∃ c1, c1 = min (2 * x + 1) (W - 1) := ⟨_, rfl⟩
      have er0 : 2 * (y : Int) = (r0 : Int) := by omega
      have er1 : (if (H : Int) - 1 < (r0 : Int) + 1 then (H : Int) - 1 else (r0 : Int) + 1) = (r1 : Int) := by split <;> omega
      have ec0 : 2 * (x : Int) = (c0 : Int) := by omega
      have ec1 : (if (W : Int) - 1 < (c0 : Int) + 1 then (W : Int) - 1 else (c0 : Int) + 1) = (c1 : Int) := by split <;> omega
      obtain ⟨q, hq⟩ : ∃ q : Nat → Nat → Int, q = fun i j => l.getD (pk r0 r1 i * W + pk c0 c1 j) 0 := ⟨_, rfl⟩
      have hqb : ∀ i j, 0 ≤ q i j ∧ q i j < 65536 := fun i j => by rw [hq]; exact h5.get (by decide) _
      have hqb2 : ∀ i j, 0 ≤ q i j ∧ q i j < 4294967296 := fun i j => by have := hqb i j; omega
      have hgv : sq0 q 2 / 4 = g (y * w' + x) := by
        rw [hg, grF_at _ hxl, hvG]
        unfold cl
        rw [show min (2 * y) (H - 1) = r0 by omega, show min (2 * y + 1) (H - 1) = r1 by omega, show min (2 * x) (W - 1) = c0 by omega, show min (2 * x + 1) (W - 1) = c1 by omega]
        simp only [sq0, hq, pk, if_true, if_neg (show ¬ (1 : Nat) = 0 by decide)]
        omega
      have hgb : 0 ≤ g (y * w' + x) ∧ g (y * w' + x) < 65536 := by rw [hg, grF_at _ hxl]; exact hvG_in h5 (by decide) _ _
      have et : tab g (y * w' + (x + 1)) = tab g (y * w' + x) ++ [g (y * w' + x)] := rfl
      simp -dsimp -implicitDefEqProofs (disch := first | omega | (simp only [List.length_append, List.length_cons, List.length_nil, List.length_take, List.length_drop]; omega)) only [hs2, er0, er1, ↓aPre, aPost, oneW, allOne, retV, retVA, ↓reduceIte, reduceCtorEq, Nat.reduceAdd, Nat.reduceSub, Nat.reduceMul, Nat.reduceLT, Nat.reduceLeDiff, Nat.reduceEqDiff, Nat.reduceDiv, Nat.reduceMod, Nat.reducePow, Int.reduceAdd, Int.reduceSub, Int.reduceMul, Int.reduceLT, Int.reduceLE, Int.reduceEq, Int.reduceNe, Int.reducePow, Int.reduceToNat, Int.reduceNeg]
      refine loop_of (fun s => ∃ (i : Nat), i ≤ 2 ∧ s.tm 1 = .ptr 1 0 ∧ s.hp 1 = some (.box [.d (.c (.int .i64 W)), .d (.c (.int .i64 H)), .d (.lst 1 (li .u16 l))]) ∧ s.tm 2 = .ptr 2 0 ∧ s.hp 2 = some (.box [.d (.c (.int .i64 0)), .d (.c (.int .i64 0)), .d (.c (.slice none 0 0))]) ∧ s.tm 4 = .ptr 4 0 ∧ s.tm 36 = .d (.c (.int .i64 h')) ∧ s.tm 37 = .d (.c (.int .i64 y)) ∧ s.tm 5 = .d (.c (.int .i64 y)) ∧ s.tm 41 = .d (.c (.int .i64 w')) ∧ s.tm 42 = .d (.c (.int .i64 x)) ∧ s.hp 4 = some (.box [.d (.c (.int .i64 w')), .d (.c (.int .i64 h')), .sl 100 1 0 (y * w' + x)]) ∧ s.hp 100 = some (.row 1 (li .u16 (tab g (y * w' + x)))) ∧ s.tm 6 = .d (.c (.int .i64 x)) ∧ s.tm 54 = .d (.lst 1 (li .i64 [(r0 : Int), r1])) ∧ s.tm 55 = .d (.c (.int .i64 2)) ∧ s.tm 56 = .d (.c (.int .i64 i)) ∧ s.tm 7 = .d (.c (.int .u64 (sq0 q i)))) (fun s => 2 - (avN (s.tm 56)).toNat) ?_ ?_
      · refine ⟨0, Nat.zero_le _, ?_⟩
        simp -dsimp -implicitDefEqProofs (disch := first | omega | (simp only [List.length_append, List.length_cons, List.length_nil, List.length_take, List.length_drop]; omega)) only [hs2, er0, er1, sq0, Int.natCast_zero, ↓aPre, aPost, oneW, allOne, retV, retVA, ↓reduceIte, reduceCtorEq, Nat.reduceAdd, Nat.reduceSub, Nat.reduceMul, Nat.reduceLT, Nat.reduceLeDiff, Nat.reduceEqDiff, Nat.reduceDiv, Nat.reduceMod, Nat.reducePow, Int.reduceAdd, Int.reduceSub, Int.reduceMul, Int.reduceLT, Int.reduceLE, Int.reduceEq, Int.reduceNe, Int.reducePow, Int.reduceToNat, Int.reduceNeg]
      rintro s3 ⟨i, hi, hs3⟩
      by_cases hil : i < 2
      · have eri := pk_at r0 r1 hil
        have hri := pk_le (show r0 < H by omega) (show r1 < H by omega) i
        simp -dsimp -implicitDefEqProofs (disch := first | omega | (simp only [List.length_append, List.length_cons, List.length_nil, List.length_take, List.length_drop]; omega)) only [hs3, eri, ec0, ec1, ↓aPre, aPost, oneW, allOne, retV, retVA, ↓reduceIte, reduceCtorEq, Nat.reduceAdd, Nat.reduceSub, Nat.reduceMul, Nat.reduceLT, Nat.reduceLeDiff, Nat.reduceEqDiff, Nat.reduceDiv, Nat.reduceMod, Nat.reducePow, Int.reduceAdd, Int.reduceSub, Int.reduceMul, Int.reduceLT, Int.reduceLE, Int.reduceEq, Int.reduceNe, Int.reducePow, Int.reduceToNat, Int.reduceNeg]
        refine loop_of (fun s => ∃ (j : Nat), j ≤ 2 ∧ s.tm 1 = .ptr 1 0 ∧ s.hp 1 = some (.box [.d (.c (.int .i64 W)), .d (.c (.int .i64 H)), .d (.lst 1 (li .u16 l))]) ∧ s.tm 2 = .ptr 2 0 ∧ s.hp 2 = some (.box [.d (.c (.int .i64 0)), .d (.c (.int .i64 0)), .d (.c (.slice none 0 0))]) ∧ s.tm 4 = .ptr 4 0 ∧ s.tm 36 = .d (.c (.int .i64 h')) ∧ s.tm 37 = .d (.c (.int .i64 y)) ∧ s.tm 5 = .d (.c (.int .i64 y)) ∧ s.tm 41 = .d (.c (.int .i64 w')) ∧ s.tm 42 = .d (.c (.int .i64 x)) ∧ s.hp 4 = some (.box [.d (.c (.int .i64 w')), .d (.c (.int .i64 h')), .sl 100 1 0 (y * w' + x)]) ∧ s.hp 100 = some (.row 1 (li .u16 (tab g (y * w' + x)))) ∧ s.tm 6 = .d (.c (.int .i64 x)) ∧ s.tm 54 = .d (.lst 1 (li .i64 [(r0 : Int), r1])) ∧ s.tm 55 = .d (.c (.int .i64 2)) ∧ s.tm 56 = .d (.c (.int .i64 i)) ∧ s.tm 9 = .d (.c (.int .i64 (pk r0 r1 i))) ∧ s.tm 69 = .d (.lst 1 (li .i64 [(c0 : Int), c1])) ∧ s.tm 70 = .d (.c (.int .i64 2)) ∧ s.tm 71 = .d (.c (.int .i64 j)) ∧ s.tm 7 = .d (.c (.int .u64 (sqj q i j)))) (fun s => 2 - (avN (s.tm 71)).toNat) ?_ ?_
        · refine ⟨0, Nat.zero_le _, ?_⟩
          simp -dsimp -implicitDefEqProofs (disch := first | omega | (simp only [List.length_append, List.length_cons, List.length_nil, List.length_take, List.length_drop]; omega)) only [hs3, eri, ec0, ec1, sqj, Int.natCast_zero, ↓aPre, aPost, oneW, allOne, retV, retVA, ↓reduceIte, reduceCtorEq, Nat.reduceAdd, Nat.reduceSub, Nat.reduceMul, Nat.reduceLT, Nat.reduceLeDiff, Nat.reduceEqDiff, Nat.reduceDiv, Nat.reduceMod, Nat.reducePow, Int.reduceAdd, Int.reduceSub, Int.reduceMul, Int.reduceLT, Int.reduceLE, Int.reduceEq, Int.reduceNe, Int.reducePow, Int.reduceToNat, Int.reduceNeg]
        rintro s4 ⟨j, hj, hs4⟩
        by_cases hjl : j < 2
        · have ecj := pk_at c0 c1 hjl
          have hcj := pk_le (show c0 < W by omega) (show c1 < W by omega) j
          have hpl := place_lt hcj hri
          have hWH : H * W ≤ 4194304 := by rw [Nat.mul_comm]; exact h3
          have hll : l.length = H * W := by rw [h4, Nat.mul_comm]
          have hqe : q i j = l.getD (pk r0 r1 i * W + pk c0 c1 j) 0 := by rw [hq]
          obtain ⟨a, ha⟩ : ∃ a, a = pk r0 r1 i := ⟨_, rfl⟩
          obtain ⟨c, hc⟩ : ∃ c, c = pk c0 c1 j := ⟨_, rfl⟩
          rw [← ha] at hs4 hpl hqe
          rw [← hc] at ecj hcj hpl hqe
          obtain ⟨p, hp⟩ : ∃ p : Nat, p = a * W := ⟨_, rfl⟩
          have hp2 : (a : Int) * (W : Int) = p := by rw [hp, Int.natCast_mul]
          rw [← hp] at hpl hqe
          have e1 : ((p : Int) + c).toNat = p + c := by omega
          have hsb := sqj_b hqb2 i j
          have hqz := hqb i j
          simp -dsimp -implicitDefEqProofs (disch := first | omega | (simp only [List.length_append, List.length_cons, List.length_nil, List.length_take, List.length_drop]; omega)) only [hs4, ecj, hp2, e1, ← hqe, ↓aPre, aPost, oneW, allOne, retV, retVA, ↓reduceIte, reduceCtorEq, Nat.reduceAdd, Nat.reduceSub, Nat.reduceMul, Nat.reduceLT, Nat.reduceLeDiff, Nat.reduceEqDiff, Nat.reduceDiv, Nat.reduceMod, Nat.reducePow, Int.reduceAdd, Int.reduceSub, Int.reduceMul, Int.reduceLT, Int.reduceLE, Int.reduceEq, Int.reduceNe, Int.reducePow, Int.reduceToNat, Int.reduceNeg]
          refine round_of ⟨j + 1, by omega, ?_⟩ ?_
          · simp -dsimp -implicitDefEqProofs (disch := first | omega | (simp only [List.length_append, List.length_cons, List.length_nil, List.length_take, List.length_drop]; omega)) only [hs4, ecj, hp2, e1, ← hqe, sqj, ha, ↓aPre, aPost, oneW, allOne, retV, retVA, ↓reduceIte, reduceCtorEq, Nat.reduceAdd, Nat.reduceSub, Nat.reduceMul, Nat.reduceLT, Nat.reduceLeDiff, Nat.reduceEqDiff, Nat.reduceDiv, Nat.reduceMod, Nat.reducePow, Int.reduceAdd, Int.reduceSub, Int.reduceMul, Int.reduceLT, Int.reduceLE, Int.reduceEq, Int.reduceNe, Int.reducePow, Int.reduceToNat, Int.reduceNeg]
          · simp -dsimp -implicitDefEqProofs (disch := first | omega | (simp only [List.length_append, List.length_cons, List.length_nil, List.length_take, List.length_drop]; omega)) only [hs4, ↓aPre, aPost, oneW, allOne, retV, retVA, ↓reduceIte, reduceCtorEq, Nat.reduceAdd, Nat.reduceSub, Nat.reduceMul, Nat.reduceLT, Nat.reduceLeDiff, Nat.reduceEqDiff, Nat.reduceDiv, Nat.reduceMod, Nat.reducePow, Int.reduceAdd, Int.reduceSub, Int.reduceMul, Int.reduceLT, Int.reduceLE, Int.reduceEq, Int.reduceNe, Int.reducePow, Int.reduceToNat, Int.reduceNeg]
            omega
        · obtain rfl : j = 2 := by omega
          have e2 : sqj q i 2 = sq0 q (i + 1) := rfl
          simp -dsimp -implicitDefEqProofs (disch := first | omega | (simp only [List.length_append, List.length_cons, List.length_nil, List.length_take, List.length_drop]; omega)) only [hs4, e2, ↓aPre, aPost, oneW, allOne, retV, retVA, ↓reduceIte, reduceCtorEq, Nat.reduceAdd, Nat.reduceSub, Nat.reduceMul, Nat.reduceLT, Nat.reduceLeDiff, Nat.reduceEqDiff, Nat.reduceDiv, Nat.reduceMod, Nat.reducePow, Int.reduceAdd, Int.reduceSub, Int.reduceMul, Int.reduceLT, Int.reduceLE, Int.reduceEq, Int.reduceNe, Int.reducePow, Int.reduceToNat, Int.reduceNeg]
          refine round_of ⟨i + 1, by omega, ?_⟩ ?_
          · simp -dsimp -implicitDefEqProofs (disch := first | omega | (simp only [List.length_append, List.length_cons, List.length_nil, List.length_take, List.length_drop]; omega)) only [hs4, e2, ↓aPre, aPost, oneW, allOne, retV, retVA, ↓reduceIte, reduceCtorEq, Nat.reduceAdd, Nat.reduceSub, Nat.reduceMul, Nat.reduceLT, Nat.reduceLeDiff, Nat.reduceEqDiff, Nat.reduceDiv, Nat.reduceMod, Nat.reducePow, Int.reduceAdd, Int.reduceSub, Int.reduceMul, Int.reduceLT, Int.reduceLE, Int.reduceEq, Int.reduceNe, Int.reducePow, Int.reduceToNat, Int.reduceNeg]
          · simp -dsimp -implicitDefEqProofs (disch := first | omega | (simp only [List.length_append, List.length_cons, List.length_nil, List.length_take, List.length_drop]; omega)) only [hs4, hs3, ↓aPre, aPost, oneW, allOne, retV, retVA, ↓reduceIte, reduceCtorEq, Nat.reduceAdd, Nat.reduceSub, Nat.reduceMul, Nat.reduceLT, Nat.reduceLeDiff, Nat.reduceEqDiff, Nat.reduceDiv, Nat.reduceMod, Nat.reducePow, Int.reduceAdd, Int.reduceSub, Int.reduceMul, Int.reduceLT, Int.reduceLE, Int.reduceEq, Int.reduceNe, Int.reducePow, Int.reduceToNat, Int.reduceNeg]
            omega
      · obtain rfl : i = 2 := by omega
        have hsb := sq0_b hqb2 2
        simp -dsimp -implicitDefEqProofs (disch := first | omega | (simp only [List.length_append, List.length_cons, List.length_nil, List.length_take, List.length_drop]; omega)) only [hs3, hgv, el, ↓aPre, aPost, oneW, allOne, retV, retVA, ↓reduceIte, reduceCtorEq, Nat.reduceAdd, Nat.reduceSub, Nat.reduceMul, Nat.reduceLT, Nat.reduceLeDiff, Nat.reduceEqDiff, Nat.reduceDiv, Nat.reduceMod, Nat.reducePow, Int.reduceAdd, Int.reduceSub, Int.reduceMul, Int.reduceLT, Int.reduceLE, Int.reduceEq, Int.reduceNe, Int.reducePow, Int.reduceToNat, Int.reduceNeg]
        refine round_of ⟨x + 1, by omega, ?_⟩ ?_
        · simp -dsimp -implicitDefEqProofs (disch := first | omega | (simp only [List.length_append, List.length_cons, List.length_nil, List.length_take, List.length_drop]; omega)) only [hs3, hgv, el, et, Nat.add_assoc, ↓aPre, aPost, oneW, allOne, retV, retVA, ↓reduceIte, reduceCtorEq, Nat.reduceAdd, Nat.reduceSub, Nat.reduceMul, Nat.reduceLT, Nat.reduceLeDiff, Nat.reduceEqDiff, Nat.reduceDiv, Nat.reduceMod, Nat.reducePow, Int.reduceAdd, Int.reduceSub, Int.reduceMul, Int.reduceLT, Int.reduceLE, Int.reduceEq, Int.reduceNe, Int.reducePow, Int.reduceToNat, Int.reduceNeg]
        · simp -dsimp -implicitDefEqProofs (disch := first | omega | (simp only [List.length_append, List.length_cons, List.length_nil, List.length_take, List.length_drop]; omega)) only [hs3, hs2, ↓aPre, aPost, oneW, allOne, retV, retVA, ↓reduceIte, reduceCtorEq, Nat.reduceAdd, Nat.reduceSub, Nat.reduceMul, Nat.reduceLT, Nat.reduceLeDiff, Nat.reduceEqDiff, Nat.reduceDiv, Nat.reduceMod, Nat.reducePow, Int.reduceAdd, Int.reduceSub, Int.reduceMul, Int.reduceLT, Int.reduceLE, Int.reduceEq, Int.reduceNe, Int.reducePow, Int.reduceToNat, Int.reduceNeg]
          omega
    · obtain rfl : x = w' := by omega
      simp -dsimp -implicitDefEqProofs (disch := first | omega | (simp only [List.length_append, List.length_cons, List.length_nil, List.length_take, List.length_drop]; omega)) only [hs2, ↓aPre, aPost, oneW, allOne, retV, retVA, ↓reduceIte, reduceCtorEq, Nat.reduceAdd, Nat.reduceSub, Nat.reduceMul, Nat.reduceLT, Nat.reduceLeDiff, Nat.reduceEqDiff, Nat.reduceDiv, Nat.reduceMod, Nat.reducePow, Int.reduceAdd, Int.reduceSub, Int.reduceMul, Int.reduceLT, Int.reduceLE, Int.reduceEq, Int.reduceNe, Int.reducePow, Int.reduceToNat, Int.reduceNeg]
      refine round_of ⟨y + 1, by omega, ?_⟩ ?_
      · simp -dsimp -implicitDefEqProofs (disch := first | omega | (simp only [List.length_append, List.length_cons, List.length_nil, List.length_take, List.length_drop]; omega)) only [hs2, Nat.add_mul, Nat.one_mul, ↓aPre, aPost, oneW, allOne, retV, retVA, ↓reduceIte, reduceCtorEq, Nat.reduceAdd, Nat.reduceSub, Nat.reduceMul, Nat.reduceLT, Nat.reduceLeDiff, Nat.reduceEqDiff, Nat.reduceDiv, Nat.reduceMod, Nat.reducePow, Int.reduceAdd, Int.reduceSub, Int.reduceMul, Int.reduceLT, Int.reduceLE, Int.reduceEq, Int.reduceNe, Int.reducePow, Int.reduceToNat, Int.reduceNeg]
      · simp -dsimp -implicitDefEqProofs (disch := first | omega | (simp only [List.length_append, List.length_cons, List.length_nil, List.length_take, List.length_drop]; omega)) only [hs2, hs, ↓aPre, aPost, oneW, allOne, retV, retVA, ↓reduceIte, reduceCtorEq, Nat.reduceAdd, Nat.reduceSub, Nat.reduceMul, Nat.reduceLT, Nat.reduceLeDiff, Nat.reduceEqDiff, Nat.reduceDiv, Nat.reduceMod, Nat.reducePow, Int.reduceAdd, Int.reduceSub, Int.reduceMul, Int.reduceLT, Int.reduceLE, Int.reduceEq, Int.reduceNe, Int.reducePow, Int.reduceToNat, Int.reduceNeg]
        omega
  · obtain rfl : y = h' := by omega
    have el := tab_len g (y * w')
    simp -dsimp -implicitDefEqProofs (disch := first | omega | (simp only [List.length_append, List.length_cons, List.length_nil, List.length_take, List.length_drop]; omega)) only [hs, el, ↓aPre, aPost, oneW, allOne, retV, retVA, ↓reduceIte, reduceCtorEq, Nat.reduceAdd, Nat.reduceSub, Nat.reduceMul, Nat.reduceLT, Nat.reduceLeDiff, Nat.reduceEqDiff, Nat.reduceDiv, Nat.reduceMod, Nat.reducePow, Int.reduceAdd, Int.reduceSub, Int.reduceMul, Int.reduceLT, Int.reduceLE, Int.reduceEq, Int.reduceNe, Int.reducePow, Int.reduceToNat, Int.reduceNeg]
    exact post_eq rfl
theorem rhalve {m : Int} {W H : Nat} {l : List Int} (r : Rt m W H l) (hm : 0 < m) (hm2 : m ≤ 4294967296) (hW : 1 ≤ W) (hH : 1 ≤ H) : Giv Try.prog 21 [gD .i64 W H l] (retV [gD .i64 ((W + 1) / 2 : Nat) ((H + 1) / 2 : Nat) (hvL W H l)]) := by
  refine Giv.of mixed c21 (Nat.le_of_ble_eq_true rfl) ?_
  have r' := r.half hm
  have hrr := r
  obtain ⟨h1, h2, h3, h4, h5⟩ := r
  obtain ⟨w', hw'⟩ : ∃ w', w' = (W + 1) / 2 := ⟨_, rfl⟩
  obtain ⟨h', hh'⟩ : ∃ h', h' = (H + 1) / 2 := ⟨_, rfl⟩
  have hwh := r'.p
  rw [hvL, ← hw', ← hh', grL]
  rw [← hw', ← hh', Nat.mul_comm] at hwh
  obtain ⟨g, hg⟩ : ∃ g, g = grF (hvG W H l) w' := ⟨_, rfl⟩
  rw [← hg]
  simp -dsimp -implicitDefEqProofs (disch := first | omega | (simp only [List.length_append, List.length_cons, List.length_nil, List.length_take, List.length_drop]; omega)) only [a21, gD, ↓aPre, aPost, oneW, allOne, retV, retVA, ↓reduceIte, reduceCtorEq, Nat.reduceAdd, Nat.reduceSub, Nat.reduceMul, Nat.reduceLT, Nat.reduceLeDiff, Nat.reduceEqDiff, Nat.reduceDiv, Nat.reduceMod, Nat.reducePow, Int.reduceAdd, Int.reduceSub, Int.reduceMul, Int.reduceLT, Int.reduceLE, Int.reduceEq, Int.reduceNe, Int.reducePow, Int.reduceToNat, Int.reduceNeg]
  refine loop_nilB 3 2 100 1 [.d (.c (.int .i64 0)), .d (.c (.int .i64 0)), .d (.c (.slice none 0 0))] (fun s => ∃ (y : Nat), y ≤ h' ∧ s.tm 1 = .ptr 1 0 ∧ s.hp 1 = some (.box [.d (.c (.int .i64 W)), .d (.c (.int .i64 H)), .d (.lst 1 (li .i64 l))]) ∧ s.tm 2 = .ptr 2 0 ∧ s.hp 2 = some (.box [.d (.c (.int .i64 0)), .d (.c (.int .i64 0)), .d (.c (.slice none 0 0))]) ∧ s.tm 3 = .ptr 3 0 ∧ s.tm 4 = .d (.c (.int .i64 (2 * (y : Int)))) ∧ s.hp 3 = some (.box [.d (.c (.int .i64 (((if y = 0 then 0 else w' : Nat) : Int)))), .d (.c (.int .i64 (y))), .sl 100 1 0 (y * w')]) ∧ s.hp 100 = some (.row 1 (li .i64 (tab g (y * w'))))) (fun s => H + 1 - (avN (s.tm 4)).toNat) ?_ rfl (by decide) (by decide) ?_ ?_
  · simp -dsimp -implicitDefEqProofs (disch := first | omega | (simp only [List.length_append, List.length_cons, List.length_nil, List.length_take, List.length_drop]; omega)) only [↓aPre, aPost, oneW, allOne, retV, retVA, ↓reduceIte, reduceCtorEq, Nat.reduceAdd, Nat.reduceSub, Nat.reduceMul, Nat.reduceLT, Nat.reduceLeDiff, Nat.reduceEqDiff, Nat.reduceDiv, Nat.reduceMod, Nat.reducePow, Int.reduceAdd, Int.reduceSub, Int.reduceMul, Int.reduceLT, Int.reduceLE, Int.reduceEq, Int.reduceNe, Int.reducePow, Int.reduceToNat, Int.reduceNeg]
  · refine ⟨0, Nat.zero_le _, ?_⟩
    simp -dsimp -implicitDefEqProofs (disch := first | omega | (simp only [List.length_append, List.length_cons, List.length_nil, List.length_take, List.length_drop]; omega)) only [tab, Int.natCast_zero, Nat.zero_mul, Int.mul_zero, List.set_cons_succ, List.set_cons_zero, ↓aPre, aPost, oneW, allOne, retV, retVA, ↓reduceIte, reduceCtorEq, Nat.reduceAdd, Nat.reduceSub, Nat.reduceMul, Nat.reduceLT, Nat.reduceLeDiff, Nat.reduceEqDiff, Nat.reduceDiv, Nat.reduceMod, Nat.reducePow, Int.reduceAdd, Int.reduceSub, Int.reduceMul, Int.reduceLT, Int.reduceLE, Int.reduceEq, Int.reduceNe, Int.reducePow, Int.reduceToNat, Int.reduceNeg]
  rintro s ⟨y, hy, hs⟩
  by_cases hlt : y < h'
  · simp -dsimp -implicitDefEqProofs (disch := first | omega | (simp only [List.length_append, List.length_cons, List.length_nil, List.length_take, List.length_drop]; omega)) only [hs, ↓aPre, aPost, oneW, allOne, retV, retVA, ↓reduceIte, reduceCtorEq, Nat.reduceAdd, Nat.reduceSub, Nat.reduceMul, Nat.reduceLT, Nat.reduceLeDiff, Nat.reduceEqDiff, Nat.reduceDiv, Nat.reduceMod, Nat.reducePow, Int.reduceAdd, Int.reduceSub, Int.reduceMul, Int.reduceLT, Int.reduceLE, Int.reduceEq, Int.reduceNe, Int.reducePow, Int.reduceToNat, Int.reduceNeg]
    refine loop_of (fun s => ∃ (x : Nat), x ≤ w' ∧ s.tm 1 = .ptr 1 0 ∧ s.hp 1 = some (.box [.d (.c (.int .i64 W)), .d (.c (.int .i64 H)), .d (.lst 1 (li .i64 l))]) ∧ s.tm 2 = .ptr 2 0 ∧ s.hp 2 = some (.box [.d (.c (.int .i64 0)), .d (.c (.int .i64 0)), .d (.c (.slice none 0 0))]) ∧ s.tm 3 = .ptr 3 0 ∧ s.tm 4 = .d (.c (.int .i64 (2 * (y : Int)))) ∧ s.tm 5 = .d (.c (.int .i64 (2 * (x : Int)))) ∧ s.hp 3 = some (.box [.d (.c (.int .i64 (x))), .d (.c (.int .i64 ((y : Int) + 1))), .sl 100 1 0 (y * w' + x)]) ∧ s.hp 100 = some (.row 1 (li .i64 (tab g (y * w' + x))))) (fun s => W + 1 - (avN (s.tm 5)).toNat) ?_ ?_
    · refine ⟨0, Nat.zero_le _, ?_⟩
      simp -dsimp -implicitDefEqProofs (disch := first | omega | (simp only [List.length_append, List.length_cons, List.length_nil, List.length_take, List.length_drop]; omega)) only [hs, Int.natCast_zero, Int.mul_zero, ↓aPre, aPost, oneW, allOne, retV, retVA, ↓reduceIte, reduceCtorEq, Nat.reduceAdd, Nat.reduceSub, Nat.reduceMul, Nat.reduceLT, Nat.reduceLeDiff, Nat.reduceEqDiff, Nat.reduceDiv, Nat.reduceMod, Nat.reducePow, Int.reduceAdd, Int.reduceSub, Int.reduceMul, Int.reduceLT, Int.reduceLE, Int.reduceEq, Int.reduceNe, Int.reducePow, Int.reduceToNat, Int.reduceNeg]
    rintro s2 ⟨x, hx, hs2⟩
    have el := tab_len g (y * w' + x)
    by_cases hxl : x < w'
    · have hpl2 := place_lt hxl hlt
      have k1 := cell_t hrr hW hH (show 2 * x ≤ 10000000 by omega) (show 2 * y ≤ 10000000 by omega)
      have k2 := cell_t hrr hW hH (show 2 * x + 1 ≤ 10000000 by omega) (show 2 * y ≤ 10000000 by omega)
      have k3 := cell_t hrr hW hH (show 2 * x ≤ 10000000 by omega) (show 2 * y + 1 ≤ 10000000 by omega)
      have k4 := cell_t hrr hW hH (show 2 * x + 1 ≤ 10000000 by omega) (show 2 * y + 1 ≤ 10000000 by omega)
      have b1 := cl_in (W := W) (H := H) h5 hm (2 * y) (2 * x)
      have b2 := cl_in (W := W) (H := H) h5 hm (2 * y) (2 * x + 1)
      have b3 := cl_in (W := W) (H := H) h5 hm (2 * y + 1) (2 * x)
      have b4 := cl_in (W := W) (H := H) h5 hm (2 * y + 1) (2 * x + 1)
      have hgv : (cl W H l (2 * y) (2 * x) + cl W H l (2 * y) (2 * x + 1) + cl W H l (2 * y + 1) (2 * x) + cl W H l (2 * y + 1) (2 * x + 1) + 2) / 4 = g (y * w' + x) := by
        rw [hg, grF_at _ hxl, hvG]
      have et : tab g (y * w' + (x + 1)) = tab g (y * w' + x) ++ [g (y * w' + x)] := rfl
      obtain ⟨v1, hv1⟩ : ∃ v, v = cl W H l (2 * y) (2 * x) := ⟨_, rfl⟩
      obtain ⟨v2, hv2⟩ : ∃ v, v = cl W H l (2 * y) (2 * x + 1) := ⟨_, rfl⟩
      obtain ⟨v3, hv3⟩ : ∃ v, v = cl W H l (2 * y + 1) (2 * x) := ⟨_, rfl⟩
      obtain ⟨v4, hv4⟩ : ∃ v, v = cl W H l (2 * y + 1) (2 * x + 1) := ⟨_, rfl⟩
      rw [← hv1] at k1 b1
      rw [← hv2] at k2 b2
      rw [← hv3] at k3 b3
      rw [← hv4] at k4 b4
      rw [← hv1, ← hv2, ← hv3, ← hv4] at hgv
      have ex : ((2 * x : Nat) : Int) = 2 * (x : Int) := by omega
      have ex1 : ((2 * x + 1 : Nat) : Int) = 2 * (x : Int) + 1 := by omega
      have ey : ((2 * y : Nat) : Int) = 2 * (y : Int) := by omega
      have ey1 : ((2 * y + 1 : Nat) : Int) = 2 * (y : Int) + 1 := by omega
      rw [ex, ey] at k1
      rw [ex1, ey] at k2
      rw [ex, ey1] at k3
      rw [ex1, ey1] at k4
      unfold gD at k1 k2 k3 k4
      simp -dsimp -implicitDefEqProofs (disch := first | omega | (simp only [List.length_append, List.length_cons, List.length_nil, List.length_take, List.length_drop]; omega)) only [hs2, ↓aPre, aPost, oneW, allOne, retV, retVA, ↓reduceIte, reduceCtorEq, Nat.reduceAdd, Nat.reduceSub, Nat.reduceMul, Nat.reduceLT, Nat.reduceLeDiff, Nat.reduceEqDiff, Nat.reduceDiv, Nat.reduceMod, Nat.reducePow, Int.reduceAdd, Int.reduceSub, Int.reduceMul, Int.reduceLT, Int.reduceLE, Int.reduceEq, Int.reduceNe, Int.reducePow, Int.reduceToNat, Int.reduceNeg]
      refine call_giv k1 ?_
      simp -dsimp -implicitDefEqProofs (disch := first | omega | (simp only [List.length_append, List.length_cons, List.length_nil, List.length_take, List.length_drop]; omega)) only [hs2, ↓aPre, aPost, oneW, allOne, retV, retVA, ↓reduceIte, reduceCtorEq, Nat.reduceAdd, Nat.reduceSub, Nat.reduceMul, Nat.reduceLT, Nat.reduceLeDiff, Nat.reduceEqDiff, Nat.reduceDiv, Nat.reduceMod, Nat.reducePow, Int.reduceAdd, Int.reduceSub, Int.reduceMul, Int.reduceLT, Int.reduceLE, Int.reduceEq, Int.reduceNe, Int.reducePow, Int.reduceToNat, Int.reduceNeg]
      refine call_giv k2 ?_
      simp -dsimp -implicitDefEqProofs (disch := first | omega | (simp only [List.length_append, List.length_cons, List.length_nil, List.length_take, List.length_drop]; omega)) only [hs2, ↓aPre, aPost, oneW, allOne, retV, retVA, ↓reduceIte, reduceCtorEq, Nat.reduceAdd, Nat.reduceSub, Nat.reduceMul, Nat.reduceLT, Nat.reduceLeDiff, Nat.reduceEqDiff, Nat.reduceDiv, Nat.reduceMod, Nat.reducePow, Int.reduceAdd, Int.reduceSub, Int.reduceMul, Int.reduceLT, Int.reduceLE, Int.reduceEq, Int.reduceNe, Int.reducePow, Int.reduceToNat, Int.reduceNeg]
      refine call_giv k3 ?_
      simp -dsimp -implicitDefEqProofs (disch := first | omega | (simp only [List.length_append, List.length_cons, List.length_nil, List.length_take, List.length_drop]; omega)) only [hs2, ↓aPre, aPost, oneW, allOne, retV, retVA, ↓reduceIte, reduceCtorEq, Nat.reduceAdd, Nat.reduceSub, Nat.reduceMul, Nat.reduceLT, Nat.reduceLeDiff, Nat.reduceEqDiff, Nat.reduceDiv, Nat.reduceMod, Nat.reducePow, Int.reduceAdd, Int.reduceSub, Int.reduceMul, Int.reduceLT, Int.reduceLE, Int.reduceEq, Int.reduceNe, Int.reducePow, Int.reduceToNat, Int.reduceNeg]
      refine call_giv k4 ?_
      simp -dsimp -implicitDefEqProofs (disch := first | omega | (simp only [List.length_append, List.length_cons, List.length_nil, List.length_take, List.length_drop]; omega)) only [hs2, hgv, el, ↓aPre, aPost, oneW, allOne, retV, retVA, ↓reduceIte, reduceCtorEq, Nat.reduceAdd, Nat.reduceSub, Nat.reduceMul, Nat.reduceLT, Nat.reduceLeDiff, Nat.reduceEqDiff, Nat.reduceDiv, Nat.reduceMod, Nat.reducePow, Int.reduceAdd, Int.reduceSub, Int.reduceMul, Int.reduceLT, Int.reduceLE, Int.reduceEq, Int.reduceNe, Int.reducePow, Int.reduceToNat, Int.reduceNeg]
      refine round_of ⟨x + 1, by omega, ?_⟩ ?_
      · simp -dsimp -implicitDefEqProofs (disch := first | omega | (simp only [List.length_append, List.length_cons, List.length_nil, List.length_take, List.length_drop]; omega)) only [hs2, hgv, el, et, Nat.add_assoc, Int.mul_add, Int.mul_one, ↓aPre, aPost, oneW, allOne, retV, retVA, ↓reduceIte, reduceCtorEq, Nat.reduceAdd, Nat.reduceSub, Nat.reduceMul, Nat.reduceLT, Nat.reduceLeDiff, Nat.reduceEqDiff, Nat.reduceDiv, Nat.reduceMod, Nat.reducePow, Int.reduceAdd, Int.reduceSub, Int.reduceMul, Int.reduceLT, Int.reduceLE, Int.reduceEq, Int.reduceNe, Int.reducePow, Int.reduceToNat, Int.reduceNeg]
      · simp -dsimp -implicitDefEqProofs (disch := first | omega | (simp only [List.length_append, List.length_cons, List.length_nil, List.length_take, List.length_drop]; omega)) only [hs2, ↓aPre, aPost, oneW, allOne, retV, retVA, ↓reduceIte, reduceCtorEq, Nat.reduceAdd, Nat.reduceSub, Nat.reduceMul, Nat.reduceLT, Nat.reduceLeDiff, Nat.reduceEqDiff, Nat.reduceDiv, Nat.reduceMod, Nat.reducePow, Int.reduceAdd, Int.reduceSub, Int.reduceMul, Int.reduceLT, Int.reduceLE, Int.reduceEq, Int.reduceNe, Int.reducePow, Int.reduceToNat, Int.reduceNeg]
        omega
    · obtain rfl : x = w' := by omega
      have hy0 : ¬ y + 1 = 0 := by omega
      simp -dsimp -implicitDefEqProofs (disch := first | omega | (simp only [List.length_append, List.length_cons, List.length_nil, List.length_take, List.length_drop]; omega)) only [hs2, ↓aPre, aPost, oneW, allOne, retV, retVA, ↓reduceIte, reduceCtorEq, Nat.reduceAdd, Nat.reduceSub, Nat.reduceMul, Nat.reduceLT, Nat.reduceLeDiff, Nat.reduceEqDiff, Nat.reduceDiv, Nat.reduceMod, Nat.reducePow, Int.reduceAdd, Int.reduceSub, Int.reduceMul, Int.reduceLT, Int.reduceLE, Int.reduceEq, Int.reduceNe, Int.reducePow, Int.reduceToNat, Int.reduceNeg]
      refine round_of ⟨y + 1, by omega, ?_⟩ ?_
      · simp -dsimp -implicitDefEqProofs (disch := first | omega | (simp only [List.length_append, List.length_cons, List.length_nil, List.length_take, List.length_drop]; omega)) only [hs2, hy0, Nat.add_mul, Nat.one_mul, Int.mul_add, Int.mul_one, ↓aPre, aPost, oneW, allOne, retV, retVA, ↓reduceIte, reduceCtorEq, Nat.reduceAdd, Nat.reduceSub, Nat.reduceMul, Nat.reduceLT, Nat.reduceLeDiff, Nat.reduceEqDiff, Nat.reduceDiv, Nat.reduceMod, Nat.reducePow, Int.reduceAdd, Int.reduceSub, Int.reduceMul, Int.reduceLT, Int.reduceLE, Int.reduceEq, Int.reduceNe, Int.reducePow, Int.reduceToNat, Int.reduceNeg]
      · simp -dsimp -implicitDefEqProofs (disch := first | omega | (simp only [List.length_append, List.length_cons, List.length_nil, List.length_take, List.length_drop]; omega)) only [hs2, hs, ↓aPre, aPost, oneW, allOne, retV, retVA, ↓reduceIte, reduceCtorEq, Nat.reduceAdd, Nat.reduceSub, Nat.reduceMul, Nat.reduceLT, Nat.reduceLeDiff, Nat.reduceEqDiff, Nat.reduceDiv, Nat.reduceMod, Nat.reducePow, Int.reduceAdd, Int.reduceSub, Int.reduceMul, Int.reduceLT, Int.reduceLE, Int.reduceEq, Int.reduceNe, Int.reducePow, Int.reduceToNat, Int.reduceNeg]
        omega
  · obtain rfl : y = h' := by omega
    have el := tab_len g (y * w')
    have hy0 : ¬ y = 0 := by omega
    simp -dsimp -implicitDefEqProofs (disch := first | omega | (simp only [List.length_append, List.length_cons, List.length_nil, List.length_take, List.length_drop]; omega)) only [hs, el, hy0, ↓aPre, aPost, oneW, allOne, retV, retVA, ↓reduceIte, reduceCtorEq, Nat.reduceAdd, Nat.reduceSub, Nat.reduceMul, Nat.reduceLT, Nat.reduceLeDiff, Nat.reduceEqDiff, Nat.reduceDiv, Nat.reduceMod, Nat.reducePow, Int.reduceAdd, Int.reduceSub, Int.reduceMul, Int.reduceLT, Int.reduceLE, Int.reduceEq, Int.reduceNe, Int.reducePow, Int.reduceToNat, Int.reduceNeg]
    exact post_eq rfl
end Go.Proofs.Ytgjkenadiamgfaa
