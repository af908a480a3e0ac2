/- Numbers in bytes, windows, sums: octets' functions. No condition but what each says. -/
import Derived.Test.YtjjjihdcpeodmaaWF
import Derived.Laws.Externs
set_option linter.unusedSimpArgs false
set_option linter.unusedVariables false
set_option maxRecDepth 8000
set_option maxHeartbeats 4000000
namespace Go.Proofs.Ytjjjihdcpeodmaa
open Go.Eng Go.RowKit
theorem run_a64 (x y : Int) (hx : 0 ≤ x) (hy : 0 ≤ y) (w : World) :
    (callFunc 30 #[.int .u64 x, .int .u64 y, .int .u64 0]).run Try.prog w = .ok (.value (.tuple #[.int .u64 ((x + y) % 18446744073709551616), .int .u64 ((x + y) / 18446744073709551616)])) w := by
  rw [run_callFunc_extern Try.func30 (by kernel_rfl) (by kernel_rfl) (by kernel_rfl) (e := add64Entry) (by kernel_rfl), run_add64 x y 0 hx hy (by decide) (by decide)]
  simp only [Result.andThen, Int.add_zero]
theorem a64_giv (x y : Int) (hx : 0 ≤ x) (hy : 0 ≤ y) : Giv Try.prog 30 [.c (.int .u64 x), .c (.int .u64 y), .c (.int .u64 0)] (retV [.c (.int .u64 ((x + y) % 18446744073709551616)), .c (.int .u64 ((x + y) / 18446744073709551616))]) := by
  refine .inr fun Z w vs hv => ?_
  have hvs : vs = [.int .u64 x, .int .u64 y, .int .u64 0] := by
    unfold DRt at hv
    obtain ⟨v1, r1, rfl, h1, hv⟩ := hv
    unfold DRt at hv
    obtain ⟨v2, r2, rfl, h2, hv⟩ := hv
    unfold DRt at hv
    obtain ⟨v3, r3, rfl, h3, hv⟩ := hv
    unfold DRt at hv
    subst hv
    unfold DR at h1 h2 h3
    rw [h1.1, h2.1, h3.1]
  subst hvs
  refine ⟨_, run_a64 x y hx hy w, fun M => ?_⟩
  show AR Z M w (.tup [.d _, .d _]) _
  unfold AR
  refine ⟨[_, _], rfl, ?_⟩
  unfold ARt
  refine ⟨_, _, rfl, by unfold AR DR; exact ⟨rfl, rfl⟩, ?_⟩
  unfold ARt
  refine ⟨_, _, rfl, by unfold AR DR; exact ⟨rfl, rfl⟩, ?_⟩
  unfold ARt
  rfl
theorem add_t (a b : Int) (ha : 0 ≤ a) (hb : 0 ≤ b) (h : a + b < 18446744073709551616) : Giv Try.prog 29 [.c (.int .u64 a), .c (.int .u64 b)] (retV [.c (.int .u64 (a + b)), .c (.int .i64 0)]) := by
  refine Giv.of mixed c29 (Nat.le_of_ble_eq_true rfl) ?_
  have e1 : (a + b) % 18446744073709551616 = a + b := by omega
  have e2 : (a + b) / 18446744073709551616 = 0 := by omega
  simp -dsimp -implicitDefEqProofs (disch := first | omega | (simp only [List.length_append, List.length_cons, List.length_nil, List.length_take, List.length_drop]; omega)) only [a29, ↓aPre, aPost, oneW, allOne, retV, retVA, ↓reduceIte, reduceCtorEq, Nat.reduceAdd, Nat.reduceSub, Nat.reduceMul, Nat.reduceLT, Nat.reduceLeDiff, Nat.reduceEqDiff, Nat.reduceDiv, Nat.reduceMod, Nat.reducePow, Int.reduceAdd, Int.reduceSub, Int.reduceMul, Int.reduceLT, Int.reduceLE, Int.reduceEq, Int.reduceNe, Int.reducePow, Int.reduceToNat, Int.reduceNeg]
  refine call_giv (a64_giv a b ha hb) ?_
  simp -dsimp -implicitDefEqProofs (disch := first | omega | (simp only [List.length_append, List.length_cons, List.length_nil, List.length_take, List.length_drop]; omega)) only [e1, e2, ↓aPre, aPost, oneW, allOne, retV, retVA, ↓reduceIte, reduceCtorEq, Nat.reduceAdd, Nat.reduceSub, Nat.reduceMul, Nat.reduceLT, Nat.reduceLeDiff, Nat.reduceEqDiff, Nat.reduceDiv, Nat.reduceMod, Nat.reducePow, Int.reduceAdd, Int.reduceSub, Int.reduceMul, Int.reduceLT, Int.reduceLE, Int.reduceEq, Int.reduceNe, Int.reducePow, Int.reduceToNat, Int.reduceNeg]
  exact post_eq rfl
def sizedP (n : Int) : Prop := n = 1 ∨ n = 2 ∨ n = 4 ∨ n = 8
theorem sized_t {n : Int} (h : sizedP n) : Giv Try.prog 25 [.c (.int .i64 n)] (retV [.c (.bool true)]) := by
  refine Giv.of mixed c25 (Nat.le_of_ble_eq_true rfl) ?_
  rcases h with rfl | rfl | rfl | rfl
  all_goals
    simp -dsimp -implicitDefEqProofs (disch := first | omega | (simp only [List.length_append, List.length_cons, List.length_nil, List.length_take, List.length_drop]; omega)) only [a25, ↓aPre, aPost, oneW, allOne, retV, retVA, ↓reduceIte, reduceCtorEq, Nat.reduceAdd, Nat.reduceSub, Nat.reduceMul, Nat.reduceLT, Nat.reduceLeDiff, Nat.reduceEqDiff, Nat.reduceDiv, Nat.reduceMod, Nat.reducePow, Int.reduceAdd, Int.reduceSub, Int.reduceMul, Int.reduceLT, Int.reduceLE, Int.reduceEq, Int.reduceNe, Int.reducePow, Int.reduceToNat, Int.reduceNeg]
    exact post_eq rfl
theorem win_t (b : List Int) (at_ n : Nat) (hl : b.length ≤ 1000000) (h : at_ + n ≤ b.length) : Giv Try.prog 26 [.lst 1 (li .u8 b), .c (.int .u64 at_), .c (.int .u64 n)] (retV [.lst 1 (li .u8 ((b.drop at_).take n)), .c (.int .i64 0)]) := by
  refine Giv.of mixed c26 (Nat.le_of_ble_eq_true rfl) ?_
  have e1 : ((at_ : Int) + n).toNat - at_ = n := by omega
  simp -dsimp -implicitDefEqProofs (disch := first | omega | (simp only [List.length_append, List.length_cons, List.length_nil, List.length_take, List.length_drop]; omega)) only [a26, ↓aPre, aPost, oneW, allOne, retV, retVA, ↓reduceIte, reduceCtorEq, Nat.reduceAdd, Nat.reduceSub, Nat.reduceMul, Nat.reduceLT, Nat.reduceLeDiff, Nat.reduceEqDiff, Nat.reduceDiv, Nat.reduceMod, Nat.reducePow, Int.reduceAdd, Int.reduceSub, Int.reduceMul, Int.reduceLT, Int.reduceLE, Int.reduceEq, Int.reduceNe, Int.reducePow, Int.reduceToNat, Int.reduceNeg]
  refine call_giv (add_t at_ n (by omega) (by omega) (by omega)) ?_
  simp -dsimp -implicitDefEqProofs (disch := first | omega | (simp only [List.length_append, List.length_cons, List.length_nil, List.length_take, List.length_drop]; omega)) only [e1, ↓aPre, aPost, oneW, allOne, retV, retVA, ↓reduceIte, reduceCtorEq, Nat.reduceAdd, Nat.reduceSub, Nat.reduceMul, Nat.reduceLT, Nat.reduceLeDiff, Nat.reduceEqDiff, Nat.reduceDiv, Nat.reduceMod, Nat.reducePow, Int.reduceAdd, Int.reduceSub, Int.reduceMul, Int.reduceLT, Int.reduceLE, Int.reduceEq, Int.reduceNe, Int.reducePow, Int.reduceToNat, Int.reduceNeg]
  exact post_eq rfl
def gF (w : List Int) (big : Bool) (k : Nat) : Int := if big = true then w.getD k 0 else w.getD (w.length - 1 - k) 0
def gvK (w : List Int) (big : Bool) : Nat → Int
  | 0 => 0
  | k + 1 => gvK w big k * 256 + gF w big k
theorem gF_b {w : List Int} (hb : Bytes w) (big : Bool) (k : Nat) : 0 ≤ gF w big k ∧ gF w big k < 256 := by
  unfold gF
  split
  · exact hb.get _
  · exact hb.get _
theorem gvK_b {w : List Int} (hb : Bytes w) (big : Bool) : ∀ k, 0 ≤ gvK w big k ∧ gvK w big k < 256 ^ k
  | 0 => by simp [gvK]
  | k + 1 => by
    have := gvK_b hb big k
    have := gF_b hb big k
    rw [gvK, Int.pow_succ]; omega
theorem or_256 (x y : Int) (hx : 0 ≤ x ∧ x < 72057594037927936) (hy : 0 ≤ y ∧ y < 256) : bits .or .u64 (x * 256) y = x * 256 + y := by
  obtain ⟨a, rfl⟩ := Int.eq_ofNat_of_zero_le hx.1
  obtain ⟨b, rfl⟩ := Int.eq_ofNat_of_zero_le hy.1
  rw [u64_or _ _ (by omega) (by omega) (by omega) (by omega)]
  have h := Nat.shiftLeft_add_eq_or_of_lt (show b < 2 ^ 8 by omega) a
  rw [show ((a : Int) * 256).toNat = a <<< 8 by rw [Nat.shiftLeft_eq]; omega, Int.toNat_natCast, ← h, Nat.shiftLeft_eq]
  omega
theorem get_t (b : List Int) (at_ : Nat) (n : Int) (big : Bool) (hn : sizedP n) (hl : b.length ≤ 1000000) (hB : Bytes b) (h : at_ + n.toNat ≤ b.length) : Giv Try.prog 20 [.lst 1 (li .u8 b), .c (.int .u64 at_), .c (.int .i64 n), .c (.bool big)] (retV [.c (.int .u64 (gvK ((b.drop at_).take n.toNat) big n.toNat)), .c (.int .i64 0)]) := by
  refine Giv.of mixed c20 (Nat.le_of_ble_eq_true rfl) ?_
  obtain ⟨m, rfl⟩ : ∃ m : Nat, n = m := ⟨n.toNat, by unfold sizedP at hn; omega⟩
  have hm8 : 1 ≤ m ∧ m ≤ 8 := by unfold sizedP at hn; omega
  rw [Int.toNat_natCast] at h ⊢
  obtain ⟨w, hw⟩ : ∃ w, w = (b.drop at_).take m := ⟨_, rfl⟩
  have hwl : w.length = m := by rw [hw, List.length_take, List.length_drop]; omega
  have hwB : Bytes w := by rw [hw]; exact (hB.drop _).take _
  rw [← hw]
  have hwin := win_t b at_ m hl h
  rw [← hw] at hwin
  simp -dsimp -implicitDefEqProofs (disch := first | omega | (simp only [List.length_append, List.length_cons, List.length_nil, List.length_take, List.length_drop]; omega)) only [a20, ↓aPre, aPost, oneW, allOne, retV, retVA, ↓reduceIte, reduceCtorEq, Nat.reduceAdd, Nat.reduceSub, Nat.reduceMul, Nat.reduceLT, Nat.reduceLeDiff, Nat.reduceEqDiff, Nat.reduceDiv, Nat.reduceMod, Nat.reducePow, Int.reduceAdd, Int.reduceSub, Int.reduceMul, Int.reduceLT, Int.reduceLE, Int.reduceEq, Int.reduceNe, Int.reducePow, Int.reduceToNat, Int.reduceNeg]
  refine call_giv (sized_t hn) ?_
  simp -dsimp -implicitDefEqProofs (disch := first | omega | (simp only [List.length_append, List.length_cons, List.length_nil, List.length_take, List.length_drop]; omega)) only [↓aPre, aPost, oneW, allOne, retV, retVA, ↓reduceIte, reduceCtorEq, Nat.reduceAdd, Nat.reduceSub, Nat.reduceMul, Nat.reduceLT, Nat.reduceLeDiff, Nat.reduceEqDiff, Nat.reduceDiv, Nat.reduceMod, Nat.reducePow, Int.reduceAdd, Int.reduceSub, Int.reduceMul, Int.reduceLT, Int.reduceLE, Int.reduceEq, Int.reduceNe, Int.reducePow, Int.reduceToNat, Int.reduceNeg]
  refine call_giv hwin ?_
  simp -dsimp -implicitDefEqProofs (disch := first | omega | (simp only [List.length_append, List.length_cons, List.length_nil, List.length_take, List.length_drop]; omega)) only [hwl, ↓aPre, aPost, oneW, allOne, retV, retVA, ↓reduceIte, reduceCtorEq, Nat.reduceAdd, Nat.reduceSub, Nat.reduceMul, Nat.reduceLT, Nat.reduceLeDiff, Nat.reduceEqDiff, Nat.reduceDiv, Nat.reduceMod, Nat.reducePow, Int.reduceAdd, Int.reduceSub, Int.reduceMul, Int.reduceLT, Int.reduceLE, Int.reduceEq, Int.reduceNe, Int.reducePow, Int.reduceToNat, Int.reduceNeg]
  refine loop_of (fun s => ∃ (k : Nat), k ≤ m ∧ s.tm 31 = .d (.c (.int .i64 k)) ∧ s.tm 30 = .d (.c (.int .i64 m)) ∧ s.tm 10 = .d (.lst 1 (li .u8 w)) ∧ s.tm 3 = .d (.c (.bool big)) ∧ s.tm 12 = .d (.c (.int .u64 (gvK w big k)))) (fun s => m - (avN (s.tm 31)).toNat) ?_ ?_
  · refine ⟨0, Nat.zero_le _, ?_⟩
    simp -dsimp -implicitDefEqProofs (disch := first | omega | (simp only [List.length_append, List.length_cons, List.length_nil, List.length_take, List.length_drop]; omega)) only [hwl, gvK, Int.natCast_zero, ↓aPre, aPost, oneW, allOne, retV, retVA, ↓reduceIte, reduceCtorEq, Nat.reduceAdd, Nat.reduceSub, Nat.reduceMul, Nat.reduceLT, Nat.reduceLeDiff, Nat.reduceEqDiff, Nat.reduceDiv, Nat.reduceMod, Nat.reducePow, Int.reduceAdd, Int.reduceSub, Int.reduceMul, Int.reduceLT, Int.reduceLE, Int.reduceEq, Int.reduceNe, Int.reducePow, Int.reduceToNat, Int.reduceNeg]
  rintro s ⟨k, hk, hs⟩
  by_cases hlt : k < m
  · have hg := gvK_b hwB big k
    have hf := gF_b hwB big k
    have hp : (256 : Int) ^ k ≤ 72057594037927936 := by
      have h1 : 256 ^ k ≤ 256 ^ 7 := Nat.pow_le_pow_right (by decide) (show k ≤ 7 by omega)
      have h2 : ((256 ^ k : Nat) : Int) ≤ ((256 ^ 7 : Nat) : Int) := Int.ofNat_le.2 h1
      simpa using h2
    have hor := or_256 (gvK w big k) (gF w big k) (by omega) hf
    have hsh : IntKind.u64.wrap (gvK w big k * 2 ^ min 8 IntKind.u64.bits) = gvK w big k * 256 := by
      rw [show min 8 IntKind.u64.bits = 8 from rfl, show (2 : Int) ^ 8 = 256 from rfl]
      exact wrap_inu64 (by omega)
    have e1 : ((m : Int) - 1 - k).toNat = m - 1 - k := by omega
    have hz1 := hwB.get (m - 1 - k)
    have hz2 := hwB.get k
    cases big with
    | true =>
      have hgf : w.getD k 0 = gF w true k := by rw [gF, if_pos rfl]
      simp -dsimp -implicitDefEqProofs (disch := first | omega | (simp only [List.length_append, List.length_cons, List.length_nil, List.length_take, List.length_drop]; omega)) only [hs, hwl, e1, hgf, hsh, hor, ↓aPre, aPost, oneW, allOne, retV, retVA, ↓reduceIte, reduceCtorEq, Nat.reduceAdd, Nat.reduceSub, Nat.reduceMul, Nat.reduceLT, Nat.reduceLeDiff, Nat.reduceEqDiff, Nat.reduceDiv, Nat.reduceMod, Nat.reducePow, Int.reduceAdd, Int.reduceSub, Int.reduceMul, Int.reduceLT, Int.reduceLE, Int.reduceEq, Int.reduceNe, Int.reducePow, Int.reduceToNat, Int.reduceNeg]
      refine round_of ⟨k + 1, by omega, ?_⟩ ?_
      · simp -dsimp -implicitDefEqProofs (disch := first | omega | (simp only [List.length_append, List.length_cons, List.length_nil, List.length_take, List.length_drop]; omega)) only [hs, hwl, e1, hgf, hsh, hor, gvK, ↓aPre, aPost, oneW, allOne, retV, retVA, ↓reduceIte, reduceCtorEq, Nat.reduceAdd, Nat.reduceSub, Nat.reduceMul, Nat.reduceLT, Nat.reduceLeDiff, Nat.reduceEqDiff, Nat.reduceDiv, Nat.reduceMod, Nat.reducePow, Int.reduceAdd, Int.reduceSub, Int.reduceMul, Int.reduceLT, Int.reduceLE, Int.reduceEq, Int.reduceNe, Int.reducePow, Int.reduceToNat, Int.reduceNeg]
      · simp -dsimp -implicitDefEqProofs (disch := first | omega | (simp only [List.length_append, List.length_cons, List.length_nil, List.length_take, List.length_drop]; omega)) only [hs, ↓aPre, aPost, oneW, allOne, retV, retVA, ↓reduceIte, reduceCtorEq, Nat.reduceAdd, Nat.reduceSub, Nat.reduceMul, Nat.reduceLT, Nat.reduceLeDiff, Nat.reduceEqDiff, Nat.reduceDiv, Nat.reduceMod, Nat.reducePow, Int.reduceAdd, Int.reduceSub, Int.reduceMul, Int.reduceLT, Int.reduceLE, Int.reduceEq, Int.reduceNe, Int.reducePow, Int.reduceToNat, Int.reduceNeg]
        omega
    | false =>
      have hgf : w.getD (m - 1 - k) 0 = gF w false k := by rw [gF, if_neg (by decide), hwl]
      simp -dsimp -implicitDefEqProofs (disch := first | omega | (simp only [List.length_append, List.length_cons, List.length_nil, List.length_take, List.length_drop]; omega)) only [hs, hwl, e1, hgf, hsh, hor, ↓aPre, aPost, oneW, allOne, retV, retVA, ↓reduceIte, reduceCtorEq, Nat.reduceAdd, Nat.reduceSub, Nat.reduceMul, Nat.reduceLT, Nat.reduceLeDiff, Nat.reduceEqDiff, Nat.reduceDiv, Nat.reduceMod, Nat.reducePow, Int.reduceAdd, Int.reduceSub, Int.reduceMul, Int.reduceLT, Int.reduceLE, Int.reduceEq, Int.reduceNe, Int.reducePow, Int.reduceToNat, Int.reduceNeg]
      refine round_of ⟨k + 1, by omega, ?_⟩ ?_
      · simp -dsimp -implicitDefEqProofs (disch := first | omega | (simp only [List.length_append, List.length_cons, List.length_nil, List.length_take, List.length_drop]; omega)) only [hs, hwl, e1, hgf, hsh, hor, gvK, ↓aPre, aPost, oneW, allOne, retV, retVA, ↓reduceIte, reduceCtorEq, Nat.reduceAdd, Nat.reduceSub, Nat.reduceMul, Nat.reduceLT, Nat.reduceLeDiff, Nat.reduceEqDiff, Nat.reduceDiv, Nat.reduceMod, Nat.reducePow, Int.reduceAdd, Int.reduceSub, Int.reduceMul, Int.reduceLT, Int.reduceLE, Int.reduceEq, Int.reduceNe, Int.reducePow, Int.reduceToNat, Int.reduceNeg]
      · simp -dsimp -implicitDefEqProofs (disch := first | omega | (simp only [List.length_append, List.length_cons, List.length_nil, List.length_take, List.length_drop]; omega)) only [hs, ↓aPre, aPost, oneW, allOne, retV, retVA, ↓reduceIte, reduceCtorEq, Nat.reduceAdd, Nat.reduceSub, Nat.reduceMul, Nat.reduceLT, Nat.reduceLeDiff, Nat.reduceEqDiff, Nat.reduceDiv, Nat.reduceMod, Nat.reducePow, Int.reduceAdd, Int.reduceSub, Int.reduceMul, Int.reduceLT, Int.reduceLE, Int.reduceEq, Int.reduceNe, Int.reducePow, Int.reduceToNat, Int.reduceNeg]
        omega
  · obtain rfl : k = m := by omega
    simp -dsimp -implicitDefEqProofs (disch := first | omega | (simp only [List.length_append, List.length_cons, List.length_nil, List.length_take, List.length_drop]; omega)) only [hs, ↓aPre, aPost, oneW, allOne, retV, retVA, ↓reduceIte, reduceCtorEq, Nat.reduceAdd, Nat.reduceSub, Nat.reduceMul, Nat.reduceLT, Nat.reduceLeDiff, Nat.reduceEqDiff, Nat.reduceDiv, Nat.reduceMod, Nat.reducePow, Int.reduceAdd, Int.reduceSub, Int.reduceMul, Int.reduceLT, Int.reduceLE, Int.reduceEq, Int.reduceNe, Int.reducePow, Int.reduceToNat, Int.reduceNeg]
    exact post_eq rfl
end Go.Proofs.Ytjjjihdcpeodmaa
