/- Values of bytes: sizes, parts, what is read, and the reference's. No condition but what each says. -/
import Derived.Test.YtpjnpmdmcllilaaWRH
set_option linter.unusedSimpArgs false
set_option linter.unusedVariables false
set_option maxRecDepth 8000
set_option maxHeartbeats 4000000
namespace Go.Proofs.Ytpjnpmdmcllilaa
open Go.Eng Go.RowKit
def rowV (el : Nat → Int) (i : Nat) (v : Int) (n : Nat) : List Int := tab (fun j => if j < i then el j else if j = i then v else 0) n
theorem rowV_len (el : Nat → Int) (i : Nat) (v : Int) (n : Nat) : (rowV el i v n).length = n := tab_len ..
theorem rowV_get (el : Nat → Int) {i : Nat} (v : Int) {n : Nat} (h : i < n) : (rowV el i v n).getD i 0 = v := by
  rw [rowV, tab_get _ h, if_neg (Nat.lt_irrefl _), if_pos rfl]
theorem rowV_set (el : Nat → Int) {i : Nat} (v v' : Int) {n : Nat} (h : i < n) : (rowV el i v n).set i v' = rowV el i v' n := by
  rw [rowV, tab_set _ h]
  refine tab_congr _ fun j hj => ?_
  by_cases c : j = i
  · subst c; rw [if_pos rfl, if_neg (Nat.lt_irrefl _), if_pos rfl]
  · rw [if_neg c]
    by_cases c2 : j < i
    · rw [if_pos c2, if_pos c2]
    · rw [if_neg c2, if_neg c2, if_neg c, if_neg c]
theorem rowV_next (el : Nat → Int) (i n : Nat) : rowV el i (el i) n = rowV el (i + 1) 0 n := by
  refine tab_congr _ fun j hj => ?_
  by_cases c : j < i
  · rw [if_pos c, if_pos (by omega)]
  · rw [if_neg c]
    by_cases c2 : j = i
    · subst c2; rw [if_pos rfl, if_pos (by omega)]
    · rw [if_neg c2, if_neg (by omega)]
      split <;> rfl
theorem rowV_0 (el : Nat → Int) (n : Nat) : List.replicate n (0 : Int) = rowV el 0 0 n := by
  rw [rep_tab]
  refine tab_congr _ fun j hj => ?_
  rw [if_neg (by omega)]
  split <;> rfl
theorem rowV_n (el : Nat → Int) (n : Nat) : rowV el n 0 n = tab el n := tab_congr _ fun j hj => by rw [if_pos hj]
theorem or_0 (y : Int) (hy : 0 ≤ y ∧ y < 18446744073709551616) : bits .or .u64 0 y = y := by
  rw [u64_or _ _ (by decide) (by decide) hy.1 hy.2, show (0 : Int).toNat = 0 from rfl, Nat.zero_or]; omega
theorem or_32 (x y : Int) (hx : 0 ≤ x ∧ x < 4294967296) (hy : 0 ≤ y ∧ y < 4294967296) : bits .or .u64 (x * 4294967296) y = x * 4294967296 + y := by
  obtain ⟨a, rfl⟩ := Int.eq_ofNat_of_zero_le hx.1
  obtain ⟨b, rfl⟩ := Int.eq_ofNat_of_zero_le hy.1
  rw [u64_or _ _ (by omega) (by omega) (by omega) (by omega)]
  have h := Nat.shiftLeft_add_eq_or_of_lt (show b < 2 ^ 32 by omega) a
  rw [show ((a : Int) * 4294967296).toNat = a <<< 32 by rw [Nat.shiftLeft_eq]; omega, Int.toNat_natCast, ← h, Nat.shiftLeft_eq]
  omega
def el1 (w : Nat) (b : List Int) (big : Bool) (i : Nat) : Int := gvK ((b.drop (i * w)).take w) big w
def elf (b : List Int) (big : Bool) (i : Nat) : Int := gvK ((b.drop (i * 8)).take 4) big 4 * 4294967296 + gvK ((b.drop (i * 8 + 4)).take 4) big 4
theorem gv_in {b : List Int} (hB : Bytes b) (at_ : Nat) (big : Bool) {k : Nat} (h : k ≤ 8) : 0 ≤ gvK ((b.drop at_).take k) big k ∧ gvK ((b.drop at_).take k) big k < 18446744073709551616 := by
  have := gvK_b ((hB.drop at_).take k) big k
  have := pow256 h
  omega
theorem gv_in4 {b : List Int} (hB : Bytes b) (at_ : Nat) (big : Bool) : 0 ≤ gvK ((b.drop at_).take 4) big 4 ∧ gvK ((b.drop at_).take 4) big 4 < 4294967296 := by
  have := gvK_b ((hB.drop at_).take 4) big 4
  rw [show (256 : Int) ^ 4 = 4294967296 from rfl] at this
  exact this
theorem read_1 (kind : Int) (hs : Giv Try.prog 36 [.c (.int .i64 kind)] (retV [.c (.int .i64 1), .c (.int .i64 0)])) (hp : Giv Try.prog 41 [.c (.int .i64 kind)] (retV [.c (.int .i64 1), .c (.int .i64 1)])) (b : List Int) (n : Nat) (big : Bool) (hn : n ≤ 65536) (hl : b.length ≤ 1000000) (hB : Bytes b) (h : n * 1 ≤ b.length) :
    Giv Try.prog 38 [.lst 1 (li .u8 b), .c (.int .i64 kind), .c (.int .i64 n), .c (.bool big)] (retV [.lst 1 (li .u64 (tab (el1 1 b big) n)), .c (.int .i64 0)]) := by
  refine Giv.of mixed c38 (Nat.le_of_ble_eq_true rfl) ?_
  have e0 := rowV_0 (el1 1 b big) n
  simp -dsimp -implicitDefEqProofs (disch := first | omega | (simp only [List.length_append, List.length_cons, List.length_nil, List.length_take, List.length_drop]; omega)) only [a38, ↓aPre, aPost, oneW, allOne, retV, retVA, ↓reduceIte, reduceCtorEq, Nat.reduceAdd, Nat.reduceSub, Nat.reduceMul, Nat.reduceLT, Nat.reduceLeDiff, Nat.reduceEqDiff, Nat.reduceDiv, Nat.reduceMod, Nat.reducePow, Int.reduceAdd, Int.reduceSub, Int.reduceMul, Int.reduceLT, Int.reduceLE, Int.reduceEq, Int.reduceNe, Int.reducePow, Int.reduceToNat, Int.reduceNeg]
  refine call_giv hs ?_
  simp -dsimp -implicitDefEqProofs (disch := first | omega | (simp only [List.length_append, List.length_cons, List.length_nil, List.length_take, List.length_drop]; omega)) only [↓aPre, aPost, oneW, allOne, retV, retVA, ↓reduceIte, reduceCtorEq, Nat.reduceAdd, Nat.reduceSub, Nat.reduceMul, Nat.reduceLT, Nat.reduceLeDiff, Nat.reduceEqDiff, Nat.reduceDiv, Nat.reduceMod, Nat.reducePow, Int.reduceAdd, Int.reduceSub, Int.reduceMul, Int.reduceLT, Int.reduceLE, Int.reduceEq, Int.reduceNe, Int.reducePow, Int.reduceToNat, Int.reduceNeg]
  refine call_giv hp ?_
  simp -dsimp -implicitDefEqProofs (disch := first | omega | (simp only [List.length_append, List.length_cons, List.length_nil, List.length_take, List.length_drop]; omega)) only [↓aPre, aPost, oneW, allOne, retV, retVA, ↓reduceIte, reduceCtorEq, Nat.reduceAdd, Nat.reduceSub, Nat.reduceMul, Nat.reduceLT, Nat.reduceLeDiff, Nat.reduceEqDiff, Nat.reduceDiv, Nat.reduceMod, Nat.reducePow, Int.reduceAdd, Int.reduceSub, Int.reduceMul, Int.reduceLT, Int.reduceLE, Int.reduceEq, Int.reduceNe, Int.reducePow, Int.reduceToNat, Int.reduceNeg]
  refine loop_of (fun s => ∃ (i : Nat), i ≤ n ∧ s.tm 51 = .d (.c (.int .i64 i)) ∧ s.tm 50 = .d (.c (.int .i64 n)) ∧ s.tm 0 = .d (.lst 1 (li .u8 b)) ∧ s.tm 3 = .d (.c (.bool big)) ∧ s.tm 10 = .d (.c (.int .i64 1)) ∧ s.tm 13 = .d (.c (.int .i64 1)) ∧ s.tm 14 = .d (.c (.int .i64 1)) ∧ s.tm 12 = .sl 43 1 0 n ∧ s.hp 43 = some (.row 1 (li .u64 (rowV (el1 1 b big) i 0 n)))) (fun s => n - (avN (s.tm 51)).toNat) ?_ ?_
  · refine ⟨0, Nat.zero_le _, ?_⟩
    simp -dsimp -implicitDefEqProofs (disch := first | omega | (simp only [List.length_append, List.length_cons, List.length_nil, List.length_take, List.length_drop]; omega)) only [e0, Int.natCast_zero, ↓aPre, aPost, oneW, allOne, retV, retVA, ↓reduceIte, reduceCtorEq, Nat.reduceAdd, Nat.reduceSub, Nat.reduceMul, Nat.reduceLT, Nat.reduceLeDiff, Nat.reduceEqDiff, Nat.reduceDiv, Nat.reduceMod, Nat.reducePow, Int.reduceAdd, Int.reduceSub, Int.reduceMul, Int.reduceLT, Int.reduceLE, Int.reduceEq, Int.reduceNe, Int.reducePow, Int.reduceToNat, Int.reduceNeg]
  rintro s ⟨i, hi, hs'⟩
  have el0 := rowV_len (el1 1 b big) i 0 n
  by_cases hlt : i < n
  · simp -dsimp -implicitDefEqProofs (disch := first | omega | (simp only [List.length_append, List.length_cons, List.length_nil, List.length_take, List.length_drop]; omega)) only [hs', ↓aPre, aPost, oneW, allOne, retV, retVA, ↓reduceIte, reduceCtorEq, Nat.reduceAdd, Nat.reduceSub, Nat.reduceMul, Nat.reduceLT, Nat.reduceLeDiff, Nat.reduceEqDiff, Nat.reduceDiv, Nat.reduceMod, Nat.reducePow, Int.reduceAdd, Int.reduceSub, Int.reduceMul, Int.reduceLT, Int.reduceLE, Int.reduceEq, Int.reduceNe, Int.reducePow, Int.reduceToNat, Int.reduceNeg]
    refine loop_of (fun s => s.tm 54 = .d (.c (.int .i64 1)) ∧ s.tm 15 = .d (.c (.int .i64 i)) ∧ s.tm 51 = .d (.c (.int .i64 i)) ∧ (s.tm 50 = .d (.c (.int .i64 n)) ∧ s.tm 0 = .d (.lst 1 (li .u8 b)) ∧ s.tm 3 = .d (.c (.bool big)) ∧ s.tm 10 = .d (.c (.int .i64 1)) ∧ s.tm 13 = .d (.c (.int .i64 1)) ∧ s.tm 14 = .d (.c (.int .i64 1)) ∧ s.tm 12 = .sl 43 1 0 n) ∧ ((s.tm 55 = .d (.c (.int .i64 0)) ∧ s.hp 43 = some (.row 1 (li .u64 (rowV (el1 1 b big) i 0 n)))) ∨ (s.tm 55 = .d (.c (.int .i64 1)) ∧ s.hp 43 = some (.row 1 (li .u64 (rowV (el1 1 b big) i (el1 1 b big i) n)))))) (fun s => 3 - (avN (s.tm 55)).toNat) ?_ ?_
    · refine ⟨?_, ?_, ?_, ?_, .inl ⟨?_, ?_⟩⟩
      all_goals
        simp -dsimp -implicitDefEqProofs (disch := first | omega | (simp only [List.length_append, List.length_cons, List.length_nil, List.length_take, List.length_drop]; omega)) only [hs', ↓aPre, aPost, oneW, allOne, retV, retVA, ↓reduceIte, reduceCtorEq, Nat.reduceAdd, Nat.reduceSub, Nat.reduceMul, Nat.reduceLT, Nat.reduceLeDiff, Nat.reduceEqDiff, Nat.reduceDiv, Nat.reduceMod, Nat.reducePow, Int.reduceAdd, Int.reduceSub, Int.reduceMul, Int.reduceLT, Int.reduceLE, Int.reduceEq, Int.reduceNe, Int.reducePow, Int.reduceToNat, Int.reduceNeg]
    rintro s2 ⟨k54, k15, k51, kb, kk⟩
    rcases kk with ⟨k55, kp⟩ | ⟨k55, kp⟩
    · have hg := get_t b (i * 1) 1 big (.inl rfl) hl hB (by show i * 1 + 1 ≤ b.length; omega)
      rw [show ((1 : Int).toNat) = 1 from rfl, show ((i * 1 : Nat) : Int) = (i : Int) * 1 by omega] at hg
      have ge := rowV_get (el1 1 b big) 0 hlt
      have gl := rowV_len (el1 1 b big) i 0 n
      have gs := rowV_set (el1 1 b big) 0 (el1 1 b big i) hlt
      have gv := gv_in hB (i * 1) big (show 1 ≤ 8 by decide)
      have ho : bits .or .u64 0 (gvK ((b.drop (i * 1)).take 1) big 1) = (el1 1 b big i) := or_0 _ gv
      simp only [Nat.mul_one] at ho
      simp -dsimp -implicitDefEqProofs (disch := first | omega | (simp only [List.length_append, List.length_cons, List.length_nil, List.length_take, List.length_drop]; omega)) only [k54, k15, k51, kb, k55, kp, ↓aPre, aPost, oneW, allOne, retV, retVA, ↓reduceIte, reduceCtorEq, Nat.reduceAdd, Nat.reduceSub, Nat.reduceMul, Nat.reduceLT, Nat.reduceLeDiff, Nat.reduceEqDiff, Nat.reduceDiv, Nat.reduceMod, Nat.reducePow, Int.reduceAdd, Int.reduceSub, Int.reduceMul, Int.reduceLT, Int.reduceLE, Int.reduceEq, Int.reduceNe, Int.reducePow, Int.reduceToNat, Int.reduceNeg]
      refine call_giv hg ?_
      simp -dsimp -implicitDefEqProofs (disch := first | omega | (simp only [List.length_append, List.length_cons, List.length_nil, List.length_take, List.length_drop]; omega)) only [k54, k15, k51, kb, k55, kp, ge, gl, Int.zero_mul, ho, gs, ↓aPre, aPost, oneW, allOne, retV, retVA, ↓reduceIte, reduceCtorEq, Nat.reduceAdd, Nat.reduceSub, Nat.reduceMul, Nat.reduceLT, Nat.reduceLeDiff, Nat.reduceEqDiff, Nat.reduceDiv, Nat.reduceMod, Nat.reducePow, Int.reduceAdd, Int.reduceSub, Int.reduceMul, Int.reduceLT, Int.reduceLE, Int.reduceEq, Int.reduceNe, Int.reducePow, Int.reduceToNat, Int.reduceNeg]
      refine round_of ⟨?_, ?_, ?_, ?_, (.inr ⟨?_, ?_⟩)⟩ ?_
      all_goals
        simp -dsimp -implicitDefEqProofs (disch := first | omega | (simp only [List.length_append, List.length_cons, List.length_nil, List.length_take, List.length_drop]; omega)) only [k54, k15, k51, kb, k55, kp, ge, gl, Int.zero_mul, ho, gs, ↓aPre, aPost, oneW, allOne, retV, retVA, ↓reduceIte, reduceCtorEq, Nat.reduceAdd, Nat.reduceSub, Nat.reduceMul, Nat.reduceLT, Nat.reduceLeDiff, Nat.reduceEqDiff, Nat.reduceDiv, Nat.reduceMod, Nat.reducePow, Int.reduceAdd, Int.reduceSub, Int.reduceMul, Int.reduceLT, Int.reduceLE, Int.reduceEq, Int.reduceNe, Int.reducePow, Int.reduceToNat, Int.reduceNeg]
    · have gn := rowV_next (el1 1 b big) i n
      simp -dsimp -implicitDefEqProofs (disch := first | omega | (simp only [List.length_append, List.length_cons, List.length_nil, List.length_take, List.length_drop]; omega)) only [k54, k15, k51, kb, k55, kp, ↓aPre, aPost, oneW, allOne, retV, retVA, ↓reduceIte, reduceCtorEq, Nat.reduceAdd, Nat.reduceSub, Nat.reduceMul, Nat.reduceLT, Nat.reduceLeDiff, Nat.reduceEqDiff, Nat.reduceDiv, Nat.reduceMod, Nat.reducePow, Int.reduceAdd, Int.reduceSub, Int.reduceMul, Int.reduceLT, Int.reduceLE, Int.reduceEq, Int.reduceNe, Int.reducePow, Int.reduceToNat, Int.reduceNeg]
      refine round_of ⟨i + 1, by omega, ?_⟩ ?_
      · simp -dsimp -implicitDefEqProofs (disch := first | omega | (simp only [List.length_append, List.length_cons, List.length_nil, List.length_take, List.length_drop]; omega)) only [k54, k15, k51, kb, k55, kp, gn, ↓aPre, aPost, oneW, allOne, retV, retVA, ↓reduceIte, reduceCtorEq, Nat.reduceAdd, Nat.reduceSub, Nat.reduceMul, Nat.reduceLT, Nat.reduceLeDiff, Nat.reduceEqDiff, Nat.reduceDiv, Nat.reduceMod, Nat.reducePow, Int.reduceAdd, Int.reduceSub, Int.reduceMul, Int.reduceLT, Int.reduceLE, Int.reduceEq, Int.reduceNe, Int.reducePow, Int.reduceToNat, Int.reduceNeg]
      · simp -dsimp -implicitDefEqProofs (disch := first | omega | (simp only [List.length_append, List.length_cons, List.length_nil, List.length_take, List.length_drop]; omega)) only [k54, k15, k51, kb, k55, kp, hs', ↓aPre, aPost, oneW, allOne, retV, retVA, ↓reduceIte, reduceCtorEq, Nat.reduceAdd, Nat.reduceSub, Nat.reduceMul, Nat.reduceLT, Nat.reduceLeDiff, Nat.reduceEqDiff, Nat.reduceDiv, Nat.reduceMod, Nat.reducePow, Int.reduceAdd, Int.reduceSub, Int.reduceMul, Int.reduceLT, Int.reduceLE, Int.reduceEq, Int.reduceNe, Int.reducePow, Int.reduceToNat, Int.reduceNeg]
        omega
  · obtain rfl : i = n := by omega
    have en := rowV_n (el1 1 b big) i
    rw [en] at hs'
    have el2 := tab_len (el1 1 b big) i
    simp -dsimp -implicitDefEqProofs (disch := first | omega | (simp only [List.length_append, List.length_cons, List.length_nil, List.length_take, List.length_drop]; omega)) only [hs', el2, ↓aPre, aPost, oneW, allOne, retV, retVA, ↓reduceIte, reduceCtorEq, Nat.reduceAdd, Nat.reduceSub, Nat.reduceMul, Nat.reduceLT, Nat.reduceLeDiff, Nat.reduceEqDiff, Nat.reduceDiv, Nat.reduceMod, Nat.reducePow, Int.reduceAdd, Int.reduceSub, Int.reduceMul, Int.reduceLT, Int.reduceLE, Int.reduceEq, Int.reduceNe, Int.reducePow, Int.reduceToNat, Int.reduceNeg]
    exact post_eq rfl
theorem read_2 (kind : Int) (hs : Giv Try.prog 36 [.c (.int .i64 kind)] (retV [.c (.int .i64 2), .c (.int .i64 0)])) (hp : Giv Try.prog 41 [.c (.int .i64 kind)] (retV [.c (.int .i64 1), .c (.int .i64 2)])) (b : List Int) (n : Nat) (big : Bool) (hn : n ≤ 65536) (hl : b.length ≤ 1000000) (hB : Bytes b) (h : n * 2 ≤ b.length) :
    Giv Try.prog 38 [.lst 1 (li .u8 b), .c (.int .i64 kind), .c (.int .i64 n), .c (.bool big)] (retV [.lst 1 (li .u64 (tab (el1 2 b big) n)), .c (.int .i64 0)]) := by
  refine Giv.of mixed c38 (Nat.le_of_ble_eq_true rfl) ?_
  have e0 := rowV_0 (el1 2 b big) n
  simp -dsimp -implicitDefEqProofs (disch := first | omega | (simp only [List.length_append, List.length_cons, List.length_nil, List.length_take, List.length_drop]; omega)) only [a38, ↓aPre, aPost, oneW, allOne, retV, retVA, ↓reduceIte, reduceCtorEq, Nat.reduceAdd, Nat.reduceSub, Nat.reduceMul, Nat.reduceLT, Nat.reduceLeDiff, Nat.reduceEqDiff, Nat.reduceDiv, Nat.reduceMod, Nat.reducePow, Int.reduceAdd, Int.reduceSub, Int.reduceMul, Int.reduceLT, Int.reduceLE, Int.reduceEq, Int.reduceNe, Int.reducePow, Int.reduceToNat, Int.reduceNeg]
  refine call_giv hs ?_
  simp -dsimp -implicitDefEqProofs (disch := first | omega | (simp only [List.length_append, List.length_cons, List.length_nil, List.length_take, List.length_drop]; omega)) only [↓aPre, aPost, oneW, allOne, retV, retVA, ↓reduceIte, reduceCtorEq, Nat.reduceAdd, Nat.reduceSub, Nat.reduceMul, Nat.reduceLT, Nat.reduceLeDiff, Nat.reduceEqDiff, Nat.reduceDiv, Nat.reduceMod, Nat.reducePow, Int.reduceAdd, Int.reduceSub, Int.reduceMul, Int.reduceLT, Int.reduceLE, Int.reduceEq, Int.reduceNe, Int.reducePow, Int.reduceToNat, Int.reduceNeg]
  refine call_giv hp ?_
  simp -dsimp -implicitDefEqProofs (disch := first | omega | (simp only [List.length_append, List.length_cons, List.length_nil, List.length_take, List.length_drop]; omega)) only [↓aPre, aPost, oneW, allOne, retV, retVA, ↓reduceIte, reduceCtorEq, Nat.reduceAdd, Nat.reduceSub, Nat.reduceMul, Nat.reduceLT, Nat.reduceLeDiff, Nat.reduceEqDiff, Nat.reduceDiv, Nat.reduceMod, Nat.reducePow, Int.reduceAdd, Int.reduceSub, Int.reduceMul, Int.reduceLT, Int.reduceLE, Int.reduceEq, Int.reduceNe, Int.reducePow, Int.reduceToNat, Int.reduceNeg]
  refine loop_of (fun s => ∃ (i : Nat), i ≤ n ∧ s.tm 51 = .d (.c (.int .i64 i)) ∧ s.tm 50 = .d (.c (.int .i64 n)) ∧ s.tm 0 = .d (.lst 1 (li .u8 b)) ∧ s.tm 3 = .d (.c (.bool big)) ∧ s.tm 10 = .d (.c (.int .i64 2)) ∧ s.tm 13 = .d (.c (.int .i64 1)) ∧ s.tm 14 = .d (.c (.int .i64 2)) ∧ s.tm 12 = .sl 43 1 0 n ∧ s.hp 43 = some (.row 1 (li .u64 (rowV (el1 2 b big) i 0 n)))) (fun s => n - (avN (s.tm 51)).toNat) ?_ ?_
  · refine ⟨0, Nat.zero_le _, ?_⟩
    simp -dsimp -implicitDefEqProofs (disch := first | omega | (simp only [List.length_append, List.length_cons, List.length_nil, List.length_take, List.length_drop]; omega)) only [e0, Int.natCast_zero, ↓aPre, aPost, oneW, allOne, retV, retVA, ↓reduceIte, reduceCtorEq, Nat.reduceAdd, Nat.reduceSub, Nat.reduceMul, Nat.reduceLT, Nat.reduceLeDiff, Nat.reduceEqDiff, Nat.reduceDiv, Nat.reduceMod, Nat.reducePow, Int.reduceAdd, Int.reduceSub, Int.reduceMul, Int.reduceLT, Int.reduceLE, Int.reduceEq, Int.reduceNe, Int.reducePow, Int.reduceToNat, Int.reduceNeg]
  rintro s ⟨i, hi, hs'⟩
  have el0 := rowV_len (el1 2 b big) i 0 n
  by_cases hlt : i < n
  · simp -dsimp -implicitDefEqProofs (disch := first | omega | (simp only [List.length_append, List.length_cons, List.length_nil, List.length_take, List.length_drop]; omega)) only [hs', ↓aPre, aPost, oneW, allOne, retV, retVA, ↓reduceIte, reduceCtorEq, Nat.reduceAdd, Nat.reduceSub, Nat.reduceMul, Nat.reduceLT, Nat.reduceLeDiff, Nat.reduceEqDiff, Nat.reduceDiv, Nat.reduceMod, Nat.reducePow, Int.reduceAdd, Int.reduceSub, Int.reduceMul, Int.reduceLT, Int.reduceLE, Int.reduceEq, Int.reduceNe, Int.reducePow, Int.reduceToNat, Int.reduceNeg]
    refine loop_of (fun s => s.tm 54 = .d (.c (.int .i64 1)) ∧ s.tm 15 = .d (.c (.int .i64 i)) ∧ s.tm 51 = .d (.c (.int .i64 i)) ∧ (s.tm 50 = .d (.c (.int .i64 n)) ∧ s.tm 0 = .d (.lst 1 (li .u8 b)) ∧ s.tm 3 = .d (.c (.bool big)) ∧ s.tm 10 = .d (.c (.int .i64 2)) ∧ s.tm 13 = .d (.c (.int .i64 1)) ∧ s.tm 14 = .d (.c (.int .i64 2)) ∧ s.tm 12 = .sl 43 1 0 n) ∧ ((s.tm 55 = .d (.c (.int .i64 0)) ∧ s.hp 43 = some (.row 1 (li .u64 (rowV (el1 2 b big) i 0 n)))) ∨ (s.tm 55 = .d (.c (.int .i64 1)) ∧ s.hp 43 = some (.row 1 (li .u64 (rowV (el1 2 b big) i (el1 2 b big i) n)))))) (fun s => 3 - (avN (s.tm 55)).toNat) ?_ ?_
    · refine ⟨?_, ?_, ?_, ?_, .inl ⟨?_, ?_⟩⟩
      all_goals
        simp -dsimp -implicitDefEqProofs (disch := first | omega | (simp only [List.length_append, List.length_cons, List.length_nil, List.length_take, List.length_drop]; omega)) only [hs', ↓aPre, aPost, oneW, allOne, retV, retVA, ↓reduceIte, reduceCtorEq, Nat.reduceAdd, Nat.reduceSub, Nat.reduceMul, Nat.reduceLT, Nat.reduceLeDiff, Nat.reduceEqDiff, Nat.reduceDiv, Nat.reduceMod, Nat.reducePow, Int.reduceAdd, Int.reduceSub, Int.reduceMul, Int.reduceLT, Int.reduceLE, Int.reduceEq, Int.reduceNe, Int.reducePow, Int.reduceToNat, Int.reduceNeg]
    rintro s2 ⟨k54, k15, k51, kb, kk⟩
    rcases kk with ⟨k55, kp⟩ | ⟨k55, kp⟩
    · have hg := get_t b (i * 2) 2 big (.inr (.inl rfl)) hl hB (by show i * 2 + 2 ≤ b.length; omega)
      rw [show ((2 : Int).toNat) = 2 from rfl, show ((i * 2 : Nat) : Int) = (i : Int) * 2 by omega] at hg
      have ge := rowV_get (el1 2 b big) 0 hlt
      have gl := rowV_len (el1 2 b big) i 0 n
      have gs := rowV_set (el1 2 b big) 0 (el1 2 b big i) hlt
      have gv := gv_in hB (i * 2) big (show 2 ≤ 8 by decide)
      have ho : bits .or .u64 0 (gvK ((b.drop (i * 2)).take 2) big 2) = (el1 2 b big i) := or_0 _ gv
      simp -dsimp -implicitDefEqProofs (disch := first | omega | (simp only [List.length_append, List.length_cons, List.length_nil, List.length_take, List.length_drop]; omega)) only [k54, k15, k51, kb, k55, kp, ↓aPre, aPost, oneW, allOne, retV, retVA, ↓reduceIte, reduceCtorEq, Nat.reduceAdd, Nat.reduceSub, Nat.reduceMul, Nat.reduceLT, Nat.reduceLeDiff, Nat.reduceEqDiff, Nat.reduceDiv, Nat.reduceMod, Nat.reducePow, Int.reduceAdd, Int.reduceSub, Int.reduceMul, Int.reduceLT, Int.reduceLE, Int.reduceEq, Int.reduceNe, Int.reducePow, Int.reduceToNat, Int.reduceNeg]
      refine call_giv hg ?_
      simp -dsimp -implicitDefEqProofs (disch := first | omega | (simp only [List.length_append, List.length_cons, List.length_nil, List.length_take, List.length_drop]; omega)) only [k54, k15, k51, kb, k55, kp, ge, gl, Int.zero_mul, ho, gs, ↓aPre, aPost, oneW, allOne, retV, retVA, ↓reduceIte, reduceCtorEq, Nat.reduceAdd, Nat.reduceSub, Nat.reduceMul, Nat.reduceLT, Nat.reduceLeDiff, Nat.reduceEqDiff, Nat.reduceDiv, Nat.reduceMod, Nat.reducePow, Int.reduceAdd, Int.reduceSub, Int.reduceMul, Int.reduceLT, Int.reduceLE, Int.reduceEq, Int.reduceNe, Int.reducePow, Int.reduceToNat, Int.reduceNeg]
      refine round_of ⟨?_, ?_, ?_, ?_, (.inr ⟨?_, ?_⟩)⟩ ?_
      all_goals
        simp -dsimp -implicitDefEqProofs (disch := first | omega | (simp only [List.length_append, List.length_cons, List.length_nil, List.length_take, List.length_drop]; omega)) only [k54, k15, k51, kb, k55, kp, ge, gl, Int.zero_mul, ho, gs, ↓aPre, aPost, oneW, allOne, retV, retVA, ↓reduceIte, reduceCtorEq, Nat.reduceAdd, Nat.reduceSub, Nat.reduceMul, Nat.reduceLT, Nat.reduceLeDiff, Nat.reduceEqDiff, Nat.reduceDiv, Nat.reduceMod, Nat.reducePow, Int.reduceAdd, Int.reduceSub, Int.reduceMul, Int.reduceLT, Int.reduceLE, Int.reduceEq, Int.reduceNe, Int.reducePow, Int.reduceToNat, Int.reduceNeg]
    · have gn := rowV_next (el1 2 b big) i n
      simp -dsimp -implicitDefEqProofs (disch := first | omega | (simp only [List.length_append, List.length_cons, List.length_nil, List.length_take, List.length_drop]; omega)) only [k54, k15, k51, kb, k55, kp, ↓aPre, aPost, oneW, allOne, retV, retVA, ↓reduceIte, reduceCtorEq, Nat.reduceAdd, Nat.reduceSub, Nat.reduceMul, Nat.reduceLT, Nat.reduceLeDiff, Nat.reduceEqDiff, Nat.reduceDiv, Nat.reduceMod, Nat.reducePow, Int.reduceAdd, Int.reduceSub, Int.reduceMul, Int.reduceLT, Int.reduceLE, Int.reduceEq, Int.reduceNe, Int.reducePow, Int.reduceToNat, Int.reduceNeg]
      refine round_of ⟨i + 1, by omega, ?_⟩ ?_
      · simp -dsimp -implicitDefEqProofs (disch := first | omega | (simp only [List.length_append, List.length_cons, List.length_nil, List.length_take, List.length_drop]; omega)) only [k54, k15, k51, kb, k55, kp, gn, ↓aPre, aPost, oneW, allOne, retV, retVA, ↓reduceIte, reduceCtorEq, Nat.reduceAdd, Nat.reduceSub, Nat.reduceMul, Nat.reduceLT, Nat.reduceLeDiff, Nat.reduceEqDiff, Nat.reduceDiv, Nat.reduceMod, Nat.reducePow, Int.reduceAdd, Int.reduceSub, Int.reduceMul, Int.reduceLT, Int.reduceLE, Int.reduceEq, Int.reduceNe, Int.reducePow, Int.reduceToNat, Int.reduceNeg]
      · simp -dsimp -implicitDefEqProofs (disch := first | omega | (simp only [List.length_append, List.length_cons, List.length_nil, List.length_take, List.length_drop]; omega)) only [k54, k15, k51, kb, k55, kp, hs', ↓aPre, aPost, oneW, allOne, retV, retVA, ↓reduceIte, reduceCtorEq, Nat.reduceAdd, Nat.reduceSub, Nat.reduceMul, Nat.reduceLT, Nat.reduceLeDiff, Nat.reduceEqDiff, Nat.reduceDiv, Nat.reduceMod, Nat.reducePow, Int.reduceAdd, Int.reduceSub, Int.reduceMul, Int.reduceLT, Int.reduceLE, Int.reduceEq, Int.reduceNe, Int.reducePow, Int.reduceToNat, Int.reduceNeg]
        omega
  · obtain rfl : i = n := by omega
    have en := rowV_n (el1 2 b big) i
    rw [en] at hs'
    have el2 := tab_len (el1 2 b big) i
    simp -dsimp -implicitDefEqProofs (disch := first | omega | (simp only [List.length_append, List.length_cons, List.length_nil, List.length_take, List.length_drop]; omega)) only [hs', el2, ↓aPre, aPost, oneW, allOne, retV, retVA, ↓reduceIte, reduceCtorEq, Nat.reduceAdd, Nat.reduceSub, Nat.reduceMul, Nat.reduceLT, Nat.reduceLeDiff, Nat.reduceEqDiff, Nat.reduceDiv, Nat.reduceMod, Nat.reducePow, Int.reduceAdd, Int.reduceSub, Int.reduceMul, Int.reduceLT, Int.reduceLE, Int.reduceEq, Int.reduceNe, Int.reducePow, Int.reduceToNat, Int.reduceNeg]
    exact post_eq rfl
theorem read_4 (kind : Int) (hs : Giv Try.prog 36 [.c (.int .i64 kind)] (retV [.c (.int .i64 4), .c (.int .i64 0)])) (hp : Giv Try.prog 41 [.c (.int .i64 kind)] (retV [.c (.int .i64 1), .c (.int .i64 4)])) (b : List Int) (n : Nat) (big : Bool) (hn : n ≤ 65536) (hl : b.length ≤ 1000000) (hB : Bytes b) (h : n * 4 ≤ b.length) :
    Giv Try.prog 38 [.lst 1 (li .u8 b), .c (.int .i64 kind), .c (.int .i64 n), .c (.bool big)] (retV [.lst 1 (li .u64 (tab (el1 4 b big) n)), .c (.int .i64 0)]) := by
  refine Giv.of mixed c38 (Nat.le_of_ble_eq_true rfl) ?_
  have e0 := rowV_0 (el1 4 b big) n
  simp -dsimp -implicitDefEqProofs (disch := first | omega | (simp only [List.length_append, List.length_cons, List.length_nil, List.length_take, List.length_drop]; omega)) only [a38, ↓aPre, aPost, oneW, allOne, retV, retVA, ↓reduceIte, reduceCtorEq, Nat.reduceAdd, Nat.reduceSub, Nat.reduceMul, Nat.reduceLT, Nat.reduceLeDiff, Nat.reduceEqDiff, Nat.reduceDiv, Nat.reduceMod, Nat.reducePow, Int.reduceAdd, Int.reduceSub, Int.reduceMul, Int.reduceLT, Int.reduceLE, Int.reduceEq, Int.reduceNe, Int.reducePow, Int.reduceToNat, Int.reduceNeg]
  refine call_giv hs ?_
  simp -dsimp -implicitDefEqProofs (disch := first | omega | (simp only [List.length_append, List.length_cons, List.length_nil, List.length_take, List.length_drop]; omega)) only [↓aPre, aPost, oneW, allOne, retV, retVA, ↓reduceIte, reduceCtorEq, Nat.reduceAdd, Nat.reduceSub, Nat.reduceMul, Nat.reduceLT, Nat.reduceLeDiff, Nat.reduceEqDiff, Nat.reduceDiv, Nat.reduceMod, Nat.reducePow, Int.reduceAdd, Int.reduceSub, Int.reduceMul, Int.reduceLT, Int.reduceLE, Int.reduceEq, Int.reduceNe, Int.reducePow, Int.reduceToNat, Int.reduceNeg]
  refine call_giv hp ?_
  simp -dsimp -implicitDefEqProofs (disch := first | omega | (simp only [List.length_append, List.length_cons, List.length_nil, List.length_take, List.length_drop]; omega)) only [↓aPre, aPost, oneW, allOne, retV, retVA, ↓reduceIte, reduceCtorEq, Nat.reduceAdd, Nat.reduceSub, Nat.reduceMul, Nat.reduceLT, Nat.reduceLeDiff, Nat.reduceEqDiff, Nat.reduceDiv, Nat.reduceMod, Nat.reducePow, Int.reduceAdd, Int.reduceSub, Int.reduceMul, Int.reduceLT, Int.reduceLE, Int.reduceEq, Int.reduceNe, Int.reducePow, Int.reduceToNat, Int.reduceNeg]
  refine loop_of (fun s => ∃ (i : Nat), i ≤ n ∧ s.tm 51 = .d (.c (.int .i64 i)) ∧ s.tm 50 = .d (.c (.int .i64 n)) ∧ s.tm 0 = .d (.lst 1 (li .u8 b)) ∧ s.tm 3 = .d (.c (.bool big)) ∧ s.tm 10 = .d (.c (.int .i64 4)) ∧ s.tm 13 = .d (.c (.int .i64 1)) ∧ s.tm 14 = .d (.c (.int .i64 4)) ∧ s.tm 12 = .sl 43 1 0 n ∧ s.hp 43 = some (.row 1 (li .u64 (rowV (el1 4 b big) i 0 n)))) (fun s => n - (avN (s.tm 51)).toNat) ?_ ?_
  · refine ⟨0, Nat.zero_le _, ?_⟩
    simp -dsimp -implicitDefEqProofs (disch := first | omega | (simp only [List.length_append, List.length_cons, List.length_nil, List.length_take, List.length_drop]; omega)) only [e0, Int.natCast_zero, ↓aPre, aPost, oneW, allOne, retV, retVA, ↓reduceIte, reduceCtorEq, Nat.reduceAdd, Nat.reduceSub, Nat.reduceMul, Nat.reduceLT, Nat.reduceLeDiff, Nat.reduceEqDiff, Nat.reduceDiv, Nat.reduceMod, Nat.reducePow, Int.reduceAdd, Int.reduceSub, Int.reduceMul, Int.reduceLT, Int.reduceLE, Int.reduceEq, Int.reduceNe, Int.reducePow, Int.reduceToNat, Int.reduceNeg]
  rintro s ⟨i, hi, hs'⟩
  have el0 := rowV_len (el1 4 b big) i 0 n
  by_cases hlt : i < n
  · simp -dsimp -implicitDefEqProofs (disch := first | omega | (simp only [List.length_append, List.length_cons, List.length_nil, List.length_take, List.length_drop]; omega)) only [hs', ↓aPre, aPost, oneW, allOne, retV, retVA, ↓reduceIte, reduceCtorEq, Nat.reduceAdd, Nat.reduceSub, Nat.reduceMul, Nat.reduceLT, Nat.reduceLeDiff, Nat.reduceEqDiff, Nat.reduceDiv, Nat.reduceMod, Nat.reducePow, Int.reduceAdd, Int.reduceSub, Int.reduceMul, Int.reduceLT, Int.reduceLE, Int.reduceEq, Int.reduceNe, Int.reducePow, Int.reduceToNat, Int.reduceNeg]
    refine loop_of (fun s => s.tm 54 = .d (.c (.int .i64 1)) ∧ s.tm 15 = .d (.c (.int .i64 i)) ∧ s.tm 51 = .d (.c (.int .i64 i)) ∧ (s.tm 50 = .d (.c (.int .i64 n)) ∧ s.tm 0 = .d (.lst 1 (li .u8 b)) ∧ s.tm 3 = .d (.c (.bool big)) ∧ s.tm 10 = .d (.c (.int .i64 4)) ∧ s.tm 13 = .d (.c (.int .i64 1)) ∧ s.tm 14 = .d (.c (.int .i64 4)) ∧ s.tm 12 = .sl 43 1 0 n) ∧ ((s.tm 55 = .d (.c (.int .i64 0)) ∧ s.hp 43 = some (.row 1 (li .u64 (rowV (el1 4 b big) i 0 n)))) ∨ (s.tm 55 = .d (.c (.int .i64 1)) ∧ s.hp 43 = some (.row 1 (li .u64 (rowV (el1 4 b big) i (el1 4 b big i) n)))))) (fun s => 3 - (avN (s.tm 55)).toNat) ?_ ?_
    · refine ⟨?_, ?_, ?_, ?_, .inl ⟨?_, ?_⟩⟩
      all_goals
        simp -dsimp -implicitDefEqProofs (disch := first | omega | (simp only [List.length_append, List.length_cons, List.length_nil, List.length_take, List.length_drop]; omega)) only [hs', ↓aPre, aPost, oneW, allOne, retV, retVA, ↓reduceIte, reduceCtorEq, Nat.reduceAdd, Nat.reduceSub, Nat.reduceMul, Nat.reduceLT, Nat.reduceLeDiff, Nat.reduceEqDiff, Nat.reduceDiv, Nat.reduceMod, Nat.reducePow, Int.reduceAdd, Int.reduceSub, Int.reduceMul, Int.reduceLT, Int.reduceLE, Int.reduceEq, Int.reduceNe, Int.reducePow, Int.reduceToNat, Int.reduceNeg]
    rintro s2 ⟨k54, k15, k51, kb, kk⟩
    rcases kk with ⟨k55, kp⟩ | ⟨k55, kp⟩
    · have hg := get_t b (i * 4) 4 big (.inr (.inr (.inl rfl))) hl hB (by show i * 4 + 4 ≤ b.length; omega)
      rw [show ((4 : Int).toNat) = 4 from rfl, show ((i * 4 : Nat) : Int) = (i : Int) * 4 by omega] at hg
      have ge := rowV_get (el1 4 b big) 0 hlt
      have gl := rowV_len (el1 4 b big) i 0 n
      have gs := rowV_set (el1 4 b big) 0 (el1 4 b big i) hlt
      have gv := gv_in hB (i * 4) big (show 4 ≤ 8 by decide)
      have ho : bits .or .u64 0 (gvK ((b.drop (i * 4)).take 4) big 4) = (el1 4 b big i) := or_0 _ gv
      simp -dsimp -implicitDefEqProofs (disch := first | omega | (simp only [List.length_append, List.length_cons, List.length_nil, List.length_take, List.length_drop]; omega)) only [k54, k15, k51, kb, k55, kp, ↓aPre, aPost, oneW, allOne, retV, retVA, ↓reduceIte, reduceCtorEq, Nat.reduceAdd, Nat.reduceSub, Nat.reduceMul, Nat.reduceLT, Nat.reduceLeDiff, Nat.reduceEqDiff, Nat.reduceDiv, Nat.reduceMod, Nat.reducePow, Int.reduceAdd, Int.reduceSub, Int.reduceMul, Int.reduceLT, Int.reduceLE, Int.reduceEq, Int.reduceNe, Int.reducePow, Int.reduceToNat, Int.reduceNeg]
      refine call_giv hg ?_
      simp -dsimp -implicitDefEqProofs (disch := first | omega | (simp only [List.length_append, List.length_cons, List.length_nil, List.length_take, List.length_drop]; omega)) only [k54, k15, k51, kb, k55, kp, ge, gl, Int.zero_mul, ho, gs, ↓aPre, aPost, oneW, allOne, retV, retVA, ↓reduceIte, reduceCtorEq, Nat.reduceAdd, Nat.reduceSub, Nat.reduceMul, Nat.reduceLT, Nat.reduceLeDiff, Nat.reduceEqDiff, Nat.reduceDiv, Nat.reduceMod, Nat.reducePow, Int.reduceAdd, Int.reduceSub, Int.reduceMul, Int.reduceLT, Int.reduceLE, Int.reduceEq, Int.reduceNe, Int.reducePow, Int.reduceToNat, Int.reduceNeg]
      refine round_of ⟨?_, ?_, ?_, ?_, (.inr ⟨?_, ?_⟩)⟩ ?_
      all_goals
        simp -dsimp -implicitDefEqProofs (disch := first | omega | (simp only [List.length_append, List.length_cons, List.length_nil, List.length_take, List.length_drop]; omega)) only [k54, k15, k51, kb, k55, kp, ge, gl, Int.zero_mul, ho, gs, ↓aPre, aPost, oneW, allOne, retV, retVA, ↓reduceIte, reduceCtorEq, Nat.reduceAdd, Nat.reduceSub, Nat.reduceMul, Nat.reduceLT, Nat.reduceLeDiff, Nat.reduceEqDiff, Nat.reduceDiv, Nat.reduceMod, Nat.reducePow, Int.reduceAdd, Int.reduceSub, Int.reduceMul, Int.reduceLT, Int.reduceLE, Int.reduceEq, Int.reduceNe, Int.reducePow, Int.reduceToNat, Int.reduceNeg]
    · have gn := rowV_next (el1 4 b big) i n
      simp -dsimp -implicitDefEqProofs (disch := first | omega | (simp only [List.length_append, List.length_cons, List.length_nil, List.length_take, List.length_drop]; omega)) only [k54, k15, k51, kb, k55, kp, ↓aPre, aPost, oneW, allOne, retV, retVA, ↓reduceIte, reduceCtorEq, Nat.reduceAdd, Nat.reduceSub, Nat.reduceMul, Nat.reduceLT, Nat.reduceLeDiff, Nat.reduceEqDiff, Nat.reduceDiv, Nat.reduceMod, Nat.reducePow, Int.reduceAdd, Int.reduceSub, Int.reduceMul, Int.reduceLT, Int.reduceLE, Int.reduceEq, Int.reduceNe, Int.reducePow, Int.reduceToNat, Int.reduceNeg]
      refine round_of ⟨i + 1, by omega, ?_⟩ ?_
      · simp -dsimp -implicitDefEqProofs (disch := first | omega | (simp only [List.length_append, List.length_cons, List.length_nil, List.length_take, List.length_drop]; omega)) only [k54, k15, k51, kb, k55, kp, gn, ↓aPre, aPost, oneW, allOne, retV, retVA, ↓reduceIte, reduceCtorEq, Nat.reduceAdd, Nat.reduceSub, Nat.reduceMul, Nat.reduceLT, Nat.reduceLeDiff, Nat.reduceEqDiff, Nat.reduceDiv, Nat.reduceMod, Nat.reducePow, Int.reduceAdd, Int.reduceSub, Int.reduceMul, Int.reduceLT, Int.reduceLE, Int.reduceEq, Int.reduceNe, Int.reducePow, Int.reduceToNat, Int.reduceNeg]
      · simp -dsimp -implicitDefEqProofs (disch := first | omega | (simp only [List.length_append, List.length_cons, List.length_nil, List.length_take, List.length_drop]; omega)) only [k54, k15, k51, kb, k55, kp, hs', ↓aPre, aPost, oneW, allOne, retV, retVA, ↓reduceIte, reduceCtorEq, Nat.reduceAdd, Nat.reduceSub, Nat.reduceMul, Nat.reduceLT, Nat.reduceLeDiff, Nat.reduceEqDiff, Nat.reduceDiv, Nat.reduceMod, Nat.reducePow, Int.reduceAdd, Int.reduceSub, Int.reduceMul, Int.reduceLT, Int.reduceLE, Int.reduceEq, Int.reduceNe, Int.reducePow, Int.reduceToNat, Int.reduceNeg]
        omega
  · obtain rfl : i = n := by omega
    have en := rowV_n (el1 4 b big) i
    rw [en] at hs'
    have el2 := tab_len (el1 4 b big) i
    simp -dsimp -implicitDefEqProofs (disch := first | omega | (simp only [List.length_append, List.length_cons, List.length_nil, List.length_take, List.length_drop]; omega)) only [hs', el2, ↓aPre, aPost, oneW, allOne, retV, retVA, ↓reduceIte, reduceCtorEq, Nat.reduceAdd, Nat.reduceSub, Nat.reduceMul, Nat.reduceLT, Nat.reduceLeDiff, Nat.reduceEqDiff, Nat.reduceDiv, Nat.reduceMod, Nat.reducePow, Int.reduceAdd, Int.reduceSub, Int.reduceMul, Int.reduceLT, Int.reduceLE, Int.reduceEq, Int.reduceNe, Int.reducePow, Int.reduceToNat, Int.reduceNeg]
    exact post_eq rfl
theorem read_8 (kind : Int) (hs : Giv Try.prog 36 [.c (.int .i64 kind)] (retV [.c (.int .i64 8), .c (.int .i64 0)])) (hp : Giv Try.prog 41 [.c (.int .i64 kind)] (retV [.c (.int .i64 1), .c (.int .i64 8)])) (b : List Int) (n : Nat) (big : Bool) (hn : n ≤ 65536) (hl : b.length ≤ 1000000) (hB : Bytes b) (h : n * 8 ≤ b.length) :
    Giv Try.prog 38 [.lst 1 (li .u8 b), .c (.int .i64 kind), .c (.int .i64 n), .c (.bool big)] (retV [.lst 1 (li .u64 (tab (el1 8 b big) n)), .c (.int .i64 0)]) := by
  refine Giv.of mixed c38 (Nat.le_of_ble_eq_true rfl) ?_
  have e0 := rowV_0 (el1 8 b big) n
  simp -dsimp -implicitDefEqProofs (disch := first | omega | (simp only [List.length_append, List.length_cons, List.length_nil, List.length_take, List.length_drop]; omega)) only [a38, ↓aPre, aPost, oneW, allOne, retV, retVA, ↓reduceIte, reduceCtorEq, Nat.reduceAdd, Nat.reduceSub, Nat.reduceMul, Nat.reduceLT, Nat.reduceLeDiff, Nat.reduceEqDiff, Nat.reduceDiv, Nat.reduceMod, Nat.reducePow, Int.reduceAdd, Int.reduceSub, Int.reduceMul, Int.reduceLT, Int.reduceLE, Int.reduceEq, Int.reduceNe, Int.reducePow, Int.reduceToNat, Int.reduceNeg]
  refine call_giv hs ?_
  simp -dsimp -implicitDefEqProofs (disch := first | omega | (simp only [List.length_append, List.length_cons, List.length_nil, List.length_take, List.length_drop]; omega)) only [↓aPre, aPost, oneW, allOne, retV, retVA, ↓reduceIte, reduceCtorEq, Nat.reduceAdd, Nat.reduceSub, Nat.reduceMul, Nat.reduceLT, Nat.reduceLeDiff, Nat.reduceEqDiff, Nat.reduceDiv, Nat.reduceMod, Nat.reducePow, Int.reduceAdd, Int.reduceSub, Int.reduceMul, Int.reduceLT, Int.reduceLE, Int.reduceEq, Int.reduceNe, Int.reducePow, Int.reduceToNat, Int.reduceNeg]
  refine call_giv hp ?_
  simp -dsimp -implicitDefEqProofs (disch := first | omega | (simp only [List.length_append, List.length_cons, List.length_nil, List.length_take, List.length_drop]; omega)) only [↓aPre, aPost, oneW, allOne, retV, retVA, ↓reduceIte, reduceCtorEq, Nat.reduceAdd, Nat.reduceSub, Nat.reduceMul, Nat.reduceLT, Nat.reduceLeDiff, Nat.reduceEqDiff, Nat.reduceDiv, Nat.reduceMod, Nat.reducePow, Int.reduceAdd, Int.reduceSub, Int.reduceMul, Int.reduceLT, Int.reduceLE, Int.reduceEq, Int.reduceNe, Int.reducePow, Int.reduceToNat, Int.reduceNeg]
  refine loop_of (fun s => ∃ (i : Nat), i ≤ n ∧ s.tm 51 = .d (.c (.int .i64 i)) ∧ s.tm 50 = .d (.c (.int .i64 n)) ∧ s.tm 0 = .d (.lst 1 (li .u8 b)) ∧ s.tm 3 = .d (.c (.bool big)) ∧ s.tm 10 = .d (.c (.int .i64 8)) ∧ s.tm 13 = .d (.c (.int .i64 1)) ∧ s.tm 14 = .d (.c (.int .i64 8)) ∧ s.tm 12 = .sl 43 1 0 n ∧ s.hp 43 = some (.row 1 (li .u64 (rowV (el1 8 b big) i 0 n)))) (fun s => n - (avN (s.tm 51)).toNat) ?_ ?_
  · refine ⟨0, Nat.zero_le _, ?_⟩
    simp -dsimp -implicitDefEqProofs (disch := first | omega | (simp only [List.length_append, List.length_cons, List.length_nil, List.length_take, List.length_drop]; omega)) only [e0, Int.natCast_zero, ↓aPre, aPost, oneW, allOne, retV, retVA, ↓reduceIte, reduceCtorEq, Nat.reduceAdd, Nat.reduceSub, Nat.reduceMul, Nat.reduceLT, Nat.reduceLeDiff, Nat.reduceEqDiff, Nat.reduceDiv, Nat.reduceMod, Nat.reducePow, Int.reduceAdd, Int.reduceSub, Int.reduceMul, Int.reduceLT, Int.reduceLE, Int.reduceEq, Int.reduceNe, Int.reducePow, Int.reduceToNat, Int.reduceNeg]
  rintro s ⟨i, hi, hs'⟩
  have el0 := rowV_len (el1 8 b big) i 0 n
  by_cases hlt : i < n
  · simp -dsimp -implicitDefEqProofs (disch := first | omega | (simp only [List.length_append, List.length_cons, List.length_nil, List.length_take, List.length_drop]; omega)) only [hs', ↓aPre, aPost, oneW, allOne, retV, retVA, ↓reduceIte, reduceCtorEq, Nat.reduceAdd, Nat.reduceSub, Nat.reduceMul, Nat.reduceLT, Nat.reduceLeDiff, Nat.reduceEqDiff, Nat.reduceDiv, Nat.reduceMod, Nat.reducePow, Int.reduceAdd, Int.reduceSub, Int.reduceMul, Int.reduceLT, Int.reduceLE, Int.reduceEq, Int.reduceNe, Int.reducePow, Int.reduceToNat, Int.reduceNeg]
    refine loop_of (fun s => s.tm 54 = .d (.c (.int .i64 1)) ∧ s.tm 15 = .d (.c (.int .i64 i)) ∧ s.tm 51 = .d (.c (.int .i64 i)) ∧ (s.tm 50 = .d (.c (.int .i64 n)) ∧ s.tm 0 = .d (.lst 1 (li .u8 b)) ∧ s.tm 3 = .d (.c (.bool big)) ∧ s.tm 10 = .d (.c (.int .i64 8)) ∧ s.tm 13 = .d (.c (.int .i64 1)) ∧ s.tm 14 = .d (.c (.int .i64 8)) ∧ s.tm 12 = .sl 43 1 0 n) ∧ ((s.tm 55 = .d (.c (.int .i64 0)) ∧ s.hp 43 = some (.row 1 (li .u64 (rowV (el1 8 b big) i 0 n)))) ∨ (s.tm 55 = .d (.c (.int .i64 1)) ∧ s.hp 43 = some (.row 1 (li .u64 (rowV (el1 8 b big) i (el1 8 b big i) n)))))) (fun s => 3 - (avN (s.tm 55)).toNat) ?_ ?_
    · refine ⟨?_, ?_, ?_, ?_, .inl ⟨?_, ?_⟩⟩
      all_goals
        simp -dsimp -implicitDefEqProofs (disch := first | omega | (simp only [List.length_append, List.length_cons, List.length_nil, List.length_take, List.length_drop]; omega)) only [hs', ↓aPre, aPost, oneW, allOne, retV, retVA, ↓reduceIte, reduceCtorEq, Nat.reduceAdd, Nat.reduceSub, Nat.reduceMul, Nat.reduceLT, Nat.reduceLeDiff, Nat.reduceEqDiff, Nat.reduceDiv, Nat.reduceMod, Nat.reducePow, Int.reduceAdd, Int.reduceSub, Int.reduceMul, Int.reduceLT, Int.reduceLE, Int.reduceEq, Int.reduceNe, Int.reducePow, Int.reduceToNat, Int.reduceNeg]
    rintro s2 ⟨k54, k15, k51, kb, kk⟩
    rcases kk with ⟨k55, kp⟩ | ⟨k55, kp⟩
    · have hg := get_t b (i * 8) 8 big (.inr (.inr (.inr rfl))) hl hB (by show i * 8 + 8 ≤ b.length; omega)
      rw [show ((8 : Int).toNat) = 8 from rfl, show ((i * 8 : Nat) : Int) = (i : Int) * 8 by omega] at hg
      have ge := rowV_get (el1 8 b big) 0 hlt
      have gl := rowV_len (el1 8 b big) i 0 n
      have gs := rowV_set (el1 8 b big) 0 (el1 8 b big i) hlt
      have gv := gv_in hB (i * 8) big (show 8 ≤ 8 by decide)
      have ho : bits .or .u64 0 (gvK ((b.drop (i * 8)).take 8) big 8) = (el1 8 b big i) := or_0 _ gv
      simp -dsimp -implicitDefEqProofs (disch := first | omega | (simp only [List.length_append, List.length_cons, List.length_nil, List.length_take, List.length_drop]; omega)) only [k54, k15, k51, kb, k55, kp, ↓aPre, aPost, oneW, allOne, retV, retVA, ↓reduceIte, reduceCtorEq, Nat.reduceAdd, Nat.reduceSub, Nat.reduceMul, Nat.reduceLT, Nat.reduceLeDiff, Nat.reduceEqDiff, Nat.reduceDiv, Nat.reduceMod, Nat.reducePow, Int.reduceAdd, Int.reduceSub, Int.reduceMul, Int.reduceLT, Int.reduceLE, Int.reduceEq, Int.reduceNe, Int.reducePow, Int.reduceToNat, Int.reduceNeg]
      refine call_giv hg ?_
      simp -dsimp -implicitDefEqProofs (disch := first | omega | (simp only [List.length_append, List.length_cons, List.length_nil, List.length_take, List.length_drop]; omega)) only [k54, k15, k51, kb, k55, kp, ge, gl, Int.zero_mul, ho, gs, ↓aPre, aPost, oneW, allOne, retV, retVA, ↓reduceIte, reduceCtorEq, Nat.reduceAdd, Nat.reduceSub, Nat.reduceMul, Nat.reduceLT, Nat.reduceLeDiff, Nat.reduceEqDiff, Nat.reduceDiv, Nat.reduceMod, Nat.reducePow, Int.reduceAdd, Int.reduceSub, Int.reduceMul, Int.reduceLT, Int.reduceLE, Int.reduceEq, Int.reduceNe, Int.reducePow, Int.reduceToNat, Int.reduceNeg]
      refine round_of ⟨?_, ?_, ?_, ?_, (.inr ⟨?_, ?_⟩)⟩ ?_
      all_goals
        simp -dsimp -implicitDefEqProofs (disch := first | omega | (simp only [List.length_append, List.length_cons, List.length_nil, List.length_take, List.length_drop]; omega)) only [k54, k15, k51, kb, k55, kp, ge, gl, Int.zero_mul, ho, gs, ↓aPre, aPost, oneW, allOne, retV, retVA, ↓reduceIte, reduceCtorEq, Nat.reduceAdd, Nat.reduceSub, Nat.reduceMul, Nat.reduceLT, Nat.reduceLeDiff, Nat.reduceEqDiff, Nat.reduceDiv, Nat.reduceMod, Nat.reducePow, Int.reduceAdd, Int.reduceSub, Int.reduceMul, Int.reduceLT, Int.reduceLE, Int.reduceEq, Int.reduceNe, Int.reducePow, Int.reduceToNat, Int.reduceNeg]
    · have gn := rowV_next (el1 8 b big) i n
      simp -dsimp -implicitDefEqProofs (disch := first | omega | (simp only [List.length_append, List.length_cons, List.length_nil, List.length_take, List.length_drop]; omega)) only [k54, k15, k51, kb, k55, kp, ↓aPre, aPost, oneW, allOne, retV, retVA, ↓reduceIte, reduceCtorEq, Nat.reduceAdd, Nat.reduceSub, Nat.reduceMul, Nat.reduceLT, Nat.reduceLeDiff, Nat.reduceEqDiff, Nat.reduceDiv, Nat.reduceMod, Nat.reducePow, Int.reduceAdd, Int.reduceSub, Int.reduceMul, Int.reduceLT, Int.reduceLE, Int.reduceEq, Int.reduceNe, Int.reducePow, Int.reduceToNat, Int.reduceNeg]
      refine round_of ⟨i + 1, by omega, ?_⟩ ?_
      · simp -dsimp -implicitDefEqProofs (disch := first | omega | (simp only [List.length_append, List.length_cons, List.length_nil, List.length_take, List.length_drop]; omega)) only [k54, k15, k51, kb, k55, kp, gn, ↓aPre, aPost, oneW, allOne, retV, retVA, ↓reduceIte, reduceCtorEq, Nat.reduceAdd, Nat.reduceSub, Nat.reduceMul, Nat.reduceLT, Nat.reduceLeDiff, Nat.reduceEqDiff, Nat.reduceDiv, Nat.reduceMod, Nat.reducePow, Int.reduceAdd, Int.reduceSub, Int.reduceMul, Int.reduceLT, Int.reduceLE, Int.reduceEq, Int.reduceNe, Int.reducePow, Int.reduceToNat, Int.reduceNeg]
      · simp -dsimp -implicitDefEqProofs (disch := first | omega | (simp only [List.length_append, List.length_cons, List.length_nil, List.length_take, List.length_drop]; omega)) only [k54, k15, k51, kb, k55, kp, hs', ↓aPre, aPost, oneW, allOne, retV, retVA, ↓reduceIte, reduceCtorEq, Nat.reduceAdd, Nat.reduceSub, Nat.reduceMul, Nat.reduceLT, Nat.reduceLeDiff, Nat.reduceEqDiff, Nat.reduceDiv, Nat.reduceMod, Nat.reducePow, Int.reduceAdd, Int.reduceSub, Int.reduceMul, Int.reduceLT, Int.reduceLE, Int.reduceEq, Int.reduceNe, Int.reducePow, Int.reduceToNat, Int.reduceNeg]
        omega
  · obtain rfl : i = n := by omega
    have en := rowV_n (el1 8 b big) i
    rw [en] at hs'
    have el2 := tab_len (el1 8 b big) i
    simp -dsimp -implicitDefEqProofs (disch := first | omega | (simp only [List.length_append, List.length_cons, List.length_nil, List.length_take, List.length_drop]; omega)) only [hs', el2, ↓aPre, aPost, oneW, allOne, retV, retVA, ↓reduceIte, reduceCtorEq, Nat.reduceAdd, Nat.reduceSub, Nat.reduceMul, Nat.reduceLT, Nat.reduceLeDiff, Nat.reduceEqDiff, Nat.reduceDiv, Nat.reduceMod, Nat.reducePow, Int.reduceAdd, Int.reduceSub, Int.reduceMul, Int.reduceLT, Int.reduceLE, Int.reduceEq, Int.reduceNe, Int.reducePow, Int.reduceToNat, Int.reduceNeg]
    exact post_eq rfl
theorem read_f (kind : Int) (hs : Giv Try.prog 36 [.c (.int .i64 kind)] (retV [.c (.int .i64 8), .c (.int .i64 0)])) (hp : Giv Try.prog 41 [.c (.int .i64 kind)] (retV [.c (.int .i64 2), .c (.int .i64 4)])) (b : List Int) (n : Nat) (big : Bool) (hn : n ≤ 65536) (hl : b.length ≤ 1000000) (hB : Bytes b) (h : n * 8 ≤ b.length) :
    Giv Try.prog 38 [.lst 1 (li .u8 b), .c (.int .i64 kind), .c (.int .i64 n), .c (.bool big)] (retV [.lst 1 (li .u64 (tab (elf b big) n)), .c (.int .i64 0)]) := by
  refine Giv.of mixed c38 (Nat.le_of_ble_eq_true rfl) ?_
  have e0 := rowV_0 (elf b big) n
  simp -dsimp -implicitDefEqProofs (disch := first | omega | (simp only [List.length_append, List.length_cons, List.length_nil, List.length_take, List.length_drop]; omega)) only [a38, ↓aPre, aPost, oneW, allOne, retV, retVA, ↓reduceIte, reduceCtorEq, Nat.reduceAdd, Nat.reduceSub, Nat.reduceMul, Nat.reduceLT, Nat.reduceLeDiff, Nat.reduceEqDiff, Nat.reduceDiv, Nat.reduceMod, Nat.reducePow, Int.reduceAdd, Int.reduceSub, Int.reduceMul, Int.reduceLT, Int.reduceLE, Int.reduceEq, Int.reduceNe, Int.reducePow, Int.reduceToNat, Int.reduceNeg]
  refine call_giv hs ?_
  simp -dsimp -implicitDefEqProofs (disch := first | omega | (simp only [List.length_append, List.length_cons, List.length_nil, List.length_take, List.length_drop]; omega)) only [↓aPre, aPost, oneW, allOne, retV, retVA, ↓reduceIte, reduceCtorEq, Nat.reduceAdd, Nat.reduceSub, Nat.reduceMul, Nat.reduceLT, Nat.reduceLeDiff, Nat.reduceEqDiff, Nat.reduceDiv, Nat.reduceMod, Nat.reducePow, Int.reduceAdd, Int.reduceSub, Int.reduceMul, Int.reduceLT, Int.reduceLE, Int.reduceEq, Int.reduceNe, Int.reducePow, Int.reduceToNat, Int.reduceNeg]
  refine call_giv hp ?_
  simp -dsimp -implicitDefEqProofs (disch := first | omega | (simp only [List.length_append, List.length_cons, List.length_nil, List.length_take, List.length_drop]; omega)) only [↓aPre, aPost, oneW, allOne, retV, retVA, ↓reduceIte, reduceCtorEq, Nat.reduceAdd, Nat.reduceSub, Nat.reduceMul, Nat.reduceLT, Nat.reduceLeDiff, Nat.reduceEqDiff, Nat.reduceDiv, Nat.reduceMod, Nat.reducePow, Int.reduceAdd, Int.reduceSub, Int.reduceMul, Int.reduceLT, Int.reduceLE, Int.reduceEq, Int.reduceNe, Int.reducePow, Int.reduceToNat, Int.reduceNeg]
  refine loop_of (fun s => ∃ (i : Nat), i ≤ n ∧ s.tm 51 = .d (.c (.int .i64 i)) ∧ s.tm 50 = .d (.c (.int .i64 n)) ∧ s.tm 0 = .d (.lst 1 (li .u8 b)) ∧ s.tm 3 = .d (.c (.bool big)) ∧ s.tm 10 = .d (.c (.int .i64 8)) ∧ s.tm 13 = .d (.c (.int .i64 2)) ∧ s.tm 14 = .d (.c (.int .i64 4)) ∧ s.tm 12 = .sl 43 1 0 n ∧ s.hp 43 = some (.row 1 (li .u64 (rowV (elf b big) i 0 n)))) (fun s => n - (avN (s.tm 51)).toNat) ?_ ?_
  · refine ⟨0, Nat.zero_le _, ?_⟩
    simp -dsimp -implicitDefEqProofs (disch := first | omega | (simp only [List.length_append, List.length_cons, List.length_nil, List.length_take, List.length_drop]; omega)) only [e0, Int.natCast_zero, ↓aPre, aPost, oneW, allOne, retV, retVA, ↓reduceIte, reduceCtorEq, Nat.reduceAdd, Nat.reduceSub, Nat.reduceMul, Nat.reduceLT, Nat.reduceLeDiff, Nat.reduceEqDiff, Nat.reduceDiv, Nat.reduceMod, Nat.reducePow, Int.reduceAdd, Int.reduceSub, Int.reduceMul, Int.reduceLT, Int.reduceLE, Int.reduceEq, Int.reduceNe, Int.reducePow, Int.reduceToNat, Int.reduceNeg]
  rintro s ⟨i, hi, hs'⟩
  have el0 := rowV_len (elf b big) i 0 n
  by_cases hlt : i < n
  · simp -dsimp -implicitDefEqProofs (disch := first | omega | (simp only [List.length_append, List.length_cons, List.length_nil, List.length_take, List.length_drop]; omega)) only [hs', ↓aPre, aPost, oneW, allOne, retV, retVA, ↓reduceIte, reduceCtorEq, Nat.reduceAdd, Nat.reduceSub, Nat.reduceMul, Nat.reduceLT, Nat.reduceLeDiff, Nat.reduceEqDiff, Nat.reduceDiv, Nat.reduceMod, Nat.reducePow, Int.reduceAdd, Int.reduceSub, Int.reduceMul, Int.reduceLT, Int.reduceLE, Int.reduceEq, Int.reduceNe, Int.reducePow, Int.reduceToNat, Int.reduceNeg]
    refine loop_of (fun s => s.tm 54 = .d (.c (.int .i64 2)) ∧ s.tm 15 = .d (.c (.int .i64 i)) ∧ s.tm 51 = .d (.c (.int .i64 i)) ∧ (s.tm 50 = .d (.c (.int .i64 n)) ∧ s.tm 0 = .d (.lst 1 (li .u8 b)) ∧ s.tm 3 = .d (.c (.bool big)) ∧ s.tm 10 = .d (.c (.int .i64 8)) ∧ s.tm 13 = .d (.c (.int .i64 2)) ∧ s.tm 14 = .d (.c (.int .i64 4)) ∧ s.tm 12 = .sl 43 1 0 n) ∧ ((s.tm 55 = .d (.c (.int .i64 0)) ∧ s.hp 43 = some (.row 1 (li .u64 (rowV (elf b big) i 0 n)))) ∨ (s.tm 55 = .d (.c (.int .i64 1)) ∧ s.hp 43 = some (.row 1 (li .u64 (rowV (elf b big) i (gvK ((b.drop (i * 8)).take 4) big 4) n)))) ∨ (s.tm 55 = .d (.c (.int .i64 2)) ∧ s.hp 43 = some (.row 1 (li .u64 (rowV (elf b big) i (elf b big i) n)))))) (fun s => 3 - (avN (s.tm 55)).toNat) ?_ ?_
    · refine ⟨?_, ?_, ?_, ?_, .inl ⟨?_, ?_⟩⟩
      all_goals
        simp -dsimp -implicitDefEqProofs (disch := first | omega | (simp only [List.length_append, List.length_cons, List.length_nil, List.length_take, List.length_drop]; omega)) only [hs', ↓aPre, aPost, oneW, allOne, retV, retVA, ↓reduceIte, reduceCtorEq, Nat.reduceAdd, Nat.reduceSub, Nat.reduceMul, Nat.reduceLT, Nat.reduceLeDiff, Nat.reduceEqDiff, Nat.reduceDiv, Nat.reduceMod, Nat.reducePow, Int.reduceAdd, Int.reduceSub, Int.reduceMul, Int.reduceLT, Int.reduceLE, Int.reduceEq, Int.reduceNe, Int.reducePow, Int.reduceToNat, Int.reduceNeg]
    rintro s2 ⟨k54, k15, k51, kb, kk⟩
    rcases kk with ⟨k55, kp⟩ | ⟨k55, kp⟩ | ⟨k55, kp⟩
    · have hg := get_t b (i * 8) 4 big (.inr (.inr (.inl rfl))) hl hB (by show i * 8 + 4 ≤ b.length; omega)
      rw [show ((4 : Int).toNat) = 4 from rfl, show ((i * 8 : Nat) : Int) = (i : Int) * 8 by omega] at hg
      have ge := rowV_get (elf b big) 0 hlt
      have gl := rowV_len (elf b big) i 0 n
      have gs := rowV_set (elf b big) 0 (gvK ((b.drop (i * 8)).take 4) big 4) hlt
      have gv := gv_in hB (i * 8) big (show 4 ≤ 8 by decide)
      have ho : bits .or .u64 0 (gvK ((b.drop (i * 8)).take 4) big 4) = (gvK ((b.drop (i * 8)).take 4) big 4) := or_0 _ gv
      simp -dsimp -implicitDefEqProofs (disch := first | omega | (simp only [List.length_append, List.length_cons, List.length_nil, List.length_take, List.length_drop]; omega)) only [k54, k15, k51, kb, k55, kp, ↓aPre, aPost, oneW, allOne, retV, retVA, ↓reduceIte, reduceCtorEq, Nat.reduceAdd, Nat.reduceSub, Nat.reduceMul, Nat.reduceLT, Nat.reduceLeDiff, Nat.reduceEqDiff, Nat.reduceDiv, Nat.reduceMod, Nat.reducePow, Int.reduceAdd, Int.reduceSub, Int.reduceMul, Int.reduceLT, Int.reduceLE, Int.reduceEq, Int.reduceNe, Int.reducePow, Int.reduceToNat, Int.reduceNeg]
      refine call_giv hg ?_
      simp -dsimp -implicitDefEqProofs (disch := first | omega | (simp only [List.length_append, List.length_cons, List.length_nil, List.length_take, List.length_drop]; omega)) only [k54, k15, k51, kb, k55, kp, ge, gl, Int.zero_mul, ho, gs, ↓aPre, aPost, oneW, allOne, retV, retVA, ↓reduceIte, reduceCtorEq, Nat.reduceAdd, Nat.reduceSub, Nat.reduceMul, Nat.reduceLT, Nat.reduceLeDiff, Nat.reduceEqDiff, Nat.reduceDiv, Nat.reduceMod, Nat.reducePow, Int.reduceAdd, Int.reduceSub, Int.reduceMul, Int.reduceLT, Int.reduceLE, Int.reduceEq, Int.reduceNe, Int.reducePow, Int.reduceToNat, Int.reduceNeg]
      refine round_of ⟨?_, ?_, ?_, ?_, (.inr (.inl ⟨?_, ?_⟩))⟩ ?_
      all_goals
        simp -dsimp -implicitDefEqProofs (disch := first | omega | (simp only [List.length_append, List.length_cons, List.length_nil, List.length_take, List.length_drop]; omega)) only [k54, k15, k51, kb, k55, kp, ge, gl, Int.zero_mul, ho, gs, ↓aPre, aPost, oneW, allOne, retV, retVA, ↓reduceIte, reduceCtorEq, Nat.reduceAdd, Nat.reduceSub, Nat.reduceMul, Nat.reduceLT, Nat.reduceLeDiff, Nat.reduceEqDiff, Nat.reduceDiv, Nat.reduceMod, Nat.reducePow, Int.reduceAdd, Int.reduceSub, Int.reduceMul, Int.reduceLT, Int.reduceLE, Int.reduceEq, Int.reduceNe, Int.reducePow, Int.reduceToNat, Int.reduceNeg]
    · have hg := get_t b (i * 8 + 4) 4 big (.inr (.inr (.inl rfl))) hl hB (by show i * 8 + 4 + 4 ≤ b.length; omega)
      rw [show ((4 : Int).toNat) = 4 from rfl, show ((i * 8 + 4 : Nat) : Int) = (i : Int) * 8 + 4 by omega] at hg
      have ge := rowV_get (elf b big) (gvK ((b.drop (i * 8)).take 4) big 4) hlt
      have gl := rowV_len (elf b big) i (gvK ((b.drop (i * 8)).take 4) big 4) n
      have gs := rowV_set (elf b big) (gvK ((b.drop (i * 8)).take 4) big 4) (elf b big i) hlt
      have gv := gv_in hB (i * 8 + 4) big (show 4 ≤ 8 by decide)
      have gv4 := gv_in4 hB (i * 8) big
      have gv5 := gv_in4 hB (i * 8 + 4) big
      have m32 : IntKind.u64.wrap (gvK ((b.drop (i * 8)).take 4) big 4 * 2 ^ min ((32 : Int) % 64).toNat IntKind.u64.bits) = gvK ((b.drop (i * 8)).take 4) big 4 * 4294967296 := by
        rw [show min ((32 : Int) % 64).toNat IntKind.u64.bits = 32 from by decide, show (2 : Int) ^ 32 = 4294967296 from rfl]
        exact wrap_inu64 (by omega)
      have ho : bits .or .u64 (gvK ((b.drop (i * 8)).take 4) big 4 * 4294967296) (gvK ((b.drop (i * 8 + 4)).take 4) big 4) = (elf b big i) := or_32 _ _ gv4 gv5
      simp -dsimp -implicitDefEqProofs (disch := first | omega | (simp only [List.length_append, List.length_cons, List.length_nil, List.length_take, List.length_drop]; omega)) only [k54, k15, k51, kb, k55, kp, ↓aPre, aPost, oneW, allOne, retV, retVA, ↓reduceIte, reduceCtorEq, Nat.reduceAdd, Nat.reduceSub, Nat.reduceMul, Nat.reduceLT, Nat.reduceLeDiff, Nat.reduceEqDiff, Nat.reduceDiv, Nat.reduceMod, Nat.reducePow, Int.reduceAdd, Int.reduceSub, Int.reduceMul, Int.reduceLT, Int.reduceLE, Int.reduceEq, Int.reduceNe, Int.reducePow, Int.reduceToNat, Int.reduceNeg]
      refine call_giv hg ?_
      simp -dsimp -implicitDefEqProofs (disch := first | omega | (simp only [List.length_append, List.length_cons, List.length_nil, List.length_take, List.length_drop]; omega)) only [k54, k15, k51, kb, k55, kp, ge, gl, m32, ho, gs, ↓aPre, aPost, oneW, allOne, retV, retVA, ↓reduceIte, reduceCtorEq, Nat.reduceAdd, Nat.reduceSub, Nat.reduceMul, Nat.reduceLT, Nat.reduceLeDiff, Nat.reduceEqDiff, Nat.reduceDiv, Nat.reduceMod, Nat.reducePow, Int.reduceAdd, Int.reduceSub, Int.reduceMul, Int.reduceLT, Int.reduceLE, Int.reduceEq, Int.reduceNe, Int.reducePow, Int.reduceToNat, Int.reduceNeg]
      refine round_of ⟨?_, ?_, ?_, ?_, (.inr (.inr ⟨?_, ?_⟩))⟩ ?_
      all_goals
        simp -dsimp -implicitDefEqProofs (disch := first | omega | (simp only [List.length_append, List.length_cons, List.length_nil, List.length_take, List.length_drop]; omega)) only [k54, k15, k51, kb, k55, kp, ge, gl, m32, ho, gs, ↓aPre, aPost, oneW, allOne, retV, retVA, ↓reduceIte, reduceCtorEq, Nat.reduceAdd, Nat.reduceSub, Nat.reduceMul, Nat.reduceLT, Nat.reduceLeDiff, Nat.reduceEqDiff, Nat.reduceDiv, Nat.reduceMod, Nat.reducePow, Int.reduceAdd, Int.reduceSub, Int.reduceMul, Int.reduceLT, Int.reduceLE, Int.reduceEq, Int.reduceNe, Int.reducePow, Int.reduceToNat, Int.reduceNeg]
    · have gn := rowV_next (elf b big) i n
      simp -dsimp -implicitDefEqProofs (disch := first | omega | (simp only [List.length_append, List.length_cons, List.length_nil, List.length_take, List.length_drop]; omega)) only [k54, k15, k51, kb, k55, kp, ↓aPre, aPost, oneW, allOne, retV, retVA, ↓reduceIte, reduceCtorEq, Nat.reduceAdd, Nat.reduceSub, Nat.reduceMul, Nat.reduceLT, Nat.reduceLeDiff, Nat.reduceEqDiff, Nat.reduceDiv, Nat.reduceMod, Nat.reducePow, Int.reduceAdd, Int.reduceSub, Int.reduceMul, Int.reduceLT, Int.reduceLE, Int.reduceEq, Int.reduceNe, Int.reducePow, Int.reduceToNat, Int.reduceNeg]
      refine round_of ⟨i + 1, by omega, ?_⟩ ?_
      · simp -dsimp -implicitDefEqProofs (disch := first | omega | (simp only [List.length_append, List.length_cons, List.length_nil, List.length_take, List.length_drop]; omega)) only [k54, k15, k51, kb, k55, kp, gn, ↓aPre, aPost, oneW, allOne, retV, retVA, ↓reduceIte, reduceCtorEq, Nat.reduceAdd, Nat.reduceSub, Nat.reduceMul, Nat.reduceLT, Nat.reduceLeDiff, Nat.reduceEqDiff, Nat.reduceDiv, Nat.reduceMod, Nat.reducePow, Int.reduceAdd, Int.reduceSub, Int.reduceMul, Int.reduceLT, Int.reduceLE, Int.reduceEq, Int.reduceNe, Int.reducePow, Int.reduceToNat, Int.reduceNeg]
      · simp -dsimp -implicitDefEqProofs (disch := first | omega | (simp only [List.length_append, List.length_cons, List.length_nil, List.length_take, List.length_drop]; omega)) only [k54, k15, k51, kb, k55, kp, hs', ↓aPre, aPost, oneW, allOne, retV, retVA, ↓reduceIte, reduceCtorEq, Nat.reduceAdd, Nat.reduceSub, Nat.reduceMul, Nat.reduceLT, Nat.reduceLeDiff, Nat.reduceEqDiff, Nat.reduceDiv, Nat.reduceMod, Nat.reducePow, Int.reduceAdd, Int.reduceSub, Int.reduceMul, Int.reduceLT, Int.reduceLE, Int.reduceEq, Int.reduceNe, Int.reducePow, Int.reduceToNat, Int.reduceNeg]
        omega
  · obtain rfl : i = n := by omega
    have en := rowV_n (elf b big) i
    rw [en] at hs'
    have el2 := tab_len (elf b big) i
    simp -dsimp -implicitDefEqProofs (disch := first | omega | (simp only [List.length_append, List.length_cons, List.length_nil, List.length_take, List.length_drop]; omega)) only [hs', el2, ↓aPre, aPost, oneW, allOne, retV, retVA, ↓reduceIte, reduceCtorEq, Nat.reduceAdd, Nat.reduceSub, Nat.reduceMul, Nat.reduceLT, Nat.reduceLeDiff, Nat.reduceEqDiff, Nat.reduceDiv, Nat.reduceMod, Nat.reducePow, Int.reduceAdd, Int.reduceSub, Int.reduceMul, Int.reduceLT, Int.reduceLE, Int.reduceEq, Int.reduceNe, Int.reducePow, Int.reduceToNat, Int.reduceNeg]
    exact post_eq rfl
end Go.Proofs.Ytpjnpmdmcllilaa
