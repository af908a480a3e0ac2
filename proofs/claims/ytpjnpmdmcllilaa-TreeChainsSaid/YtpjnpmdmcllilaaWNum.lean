/- Numbers told by bytes, and windows that lie beyond. No condition but what each says. -/
import Derived.Test.YtpjnpmdmcllilaaWOct
set_option linter.unusedSimpArgs false
set_option linter.unusedVariables false
set_option maxRecDepth 8000
set_option maxHeartbeats 4000000
namespace Go.Proofs.Ytpjnpmdmcllilaa
open Go.Eng Go.RowKit
theorem pow256 {k : Nat} (h : k ≤ 8) : (256 : Int) ^ k ≤ 18446744073709551616 := by
  have h1 : 256 ^ k ≤ 256 ^ 8 := Nat.pow_le_pow_right (by decide) h
  have h2 : ((256 ^ k : Nat) : Int) ≤ ((256 ^ 8 : Nat) : Int) := Int.ofNat_le.2 h1
  simpa using h2
theorem number_giv (w : List Int) (big : Bool) (hl : w.length ≤ 8) (hB : Bytes w) : Giv Try.prog 21 [.c (.string (strOfNums w)), .c (.bool big)] (retV [.c (.int .u64 (gvK w big w.length))]) := by
  refine Giv.of mixed c21 (Nat.le_of_ble_eq_true rfl) ?_
  obtain ⟨v, hv⟩ : ∃ v, v = (if big = true then w else turnK w w.length) := ⟨_, rfl⟩
  have hvl : v.length = w.length := by
    rw [hv]
    cases big
    · exact turnK_len ..
    · rfl
  have hvB : Bytes v := by
    rw [hv]
    cases big
    · exact turnK_bytes hB _
    · exact hB
  have hvg : gvK v true w.length = gvK w big w.length := by
    rw [hv]
    cases big with
    | true => rfl
    | false => exact gv_turn w _ (Nat.le_refl _)
  rw [← hvg]
  cases big with
  | true =>
    obtain rfl : v = w := hv
    simp -dsimp -implicitDefEqProofs (disch := first | omega | (simp only [List.length_append, List.length_cons, List.length_nil, List.length_take, List.length_drop]; omega)) only [a21, ↓aPre, aPost, oneW, allOne, retV, retVA, simprocAttr]
    refine loop_of (fun s => ∃ (k : Nat), k ≤ v.length ∧ s.tm 6 = .d (.c (.int .i64 k)) ∧ s.tm 0 = .d (.c (.string (strOfNums v))) ∧ s.tm 5 = .d (.c (.int .u64 (gvK v true k)))) (fun s => v.length - (avN (s.tm 6)).toNat) ?_ ?_
    · refine ⟨0, Nat.zero_le _, ?_⟩
      simp -dsimp -implicitDefEqProofs (disch := first | omega | (simp only [List.length_append, List.length_cons, List.length_nil, List.length_take, List.length_drop]; omega)) only [gvK, Int.natCast_zero, ↓aPre, aPost, oneW, allOne, retV, retVA, simprocAttr]
    rintro s ⟨k, hk, hs⟩
    by_cases hlt : k < v.length
    · have hg := gvK_b hvB true k
      have hg1 := gvK_b hvB true (k + 1)
      have hp := pow256 (show k + 1 ≤ 8 by omega)
      have hf := gF_b hvB true k
      have hgf : v.getD k 0 = gF v true k := by rw [gF, if_pos rfl]
      have hnx : gvK v true (k + 1) = gvK v true k * 256 + gF v true k := rfl
      simp -dsimp -implicitDefEqProofs (disch := first | omega | (simp only [List.length_append, List.length_cons, List.length_nil, List.length_take, List.length_drop]; omega)) only [hs, str_get hvB, hgf, ↓aPre, aPost, oneW, allOne, retV, retVA, simprocAttr]
      refine round_of ⟨k + 1, by omega, ?_⟩ ?_
      · simp -dsimp -implicitDefEqProofs (disch := first | omega | (simp only [List.length_append, List.length_cons, List.length_nil, List.length_take, List.length_drop]; omega)) only [hs, str_get hvB, hgf, gvK, ↓aPre, aPost, oneW, allOne, retV, retVA, simprocAttr]
      · simp -dsimp -implicitDefEqProofs (disch := first | omega | (simp only [List.length_append, List.length_cons, List.length_nil, List.length_take, List.length_drop]; omega)) only [hs, ↓aPre, aPost, oneW, allOne, retV, retVA, simprocAttr]
        omega
    · simp -dsimp -implicitDefEqProofs (disch := first | omega | (simp only [List.length_append, List.length_cons, List.length_nil, List.length_take, List.length_drop]; omega)) only [hs, ↓aPre, aPost, oneW, allOne, retV, retVA, simprocAttr]
      obtain rfl : k = v.length := by omega
      rw [hvl]
      exact post_eq rfl
  | false =>
    obtain rfl : v = turnK w w.length := hv
    simp -dsimp -implicitDefEqProofs (disch := first | omega | (simp only [List.length_append, List.length_cons, List.length_nil, List.length_take, List.length_drop]; omega)) only [a21, ↓aPre, aPost, oneW, allOne, retV, retVA, simprocAttr]
    refine call_giv (turn_giv w (by omega)) ?_
    obtain ⟨v, hv2⟩ : ∃ v, v = turnK w w.length := ⟨_, rfl⟩
    rw [← hv2] at hvl hvB ⊢
    simp -dsimp -implicitDefEqProofs (disch := first | omega | (simp only [List.length_append, List.length_cons, List.length_nil, List.length_take, List.length_drop]; omega)) only [↓aPre, aPost, oneW, allOne, retV, retVA, simprocAttr]
    refine loop_of (fun s => ∃ (k : Nat), k ≤ v.length ∧ s.tm 6 = .d (.c (.int .i64 k)) ∧ s.tm 0 = .d (.c (.string (strOfNums v))) ∧ s.tm 5 = .d (.c (.int .u64 (gvK v true k)))) (fun s => v.length - (avN (s.tm 6)).toNat) ?_ ?_
    · refine ⟨0, Nat.zero_le _, ?_⟩
      simp -dsimp -implicitDefEqProofs (disch := first | omega | (simp only [List.length_append, List.length_cons, List.length_nil, List.length_take, List.length_drop]; omega)) only [gvK, Int.natCast_zero, ↓aPre, aPost, oneW, allOne, retV, retVA, simprocAttr]
    rintro s ⟨k, hk, hs⟩
    by_cases hlt : k < v.length
    · have hg := gvK_b hvB true k
      have hg1 := gvK_b hvB true (k + 1)
      have hp := pow256 (show k + 1 ≤ 8 by omega)
      have hf := gF_b hvB true k
      have hgf : v.getD k 0 = gF v true k := by rw [gF, if_pos rfl]
      have hnx : gvK v true (k + 1) = gvK v true k * 256 + gF v true k := rfl
      simp -dsimp -implicitDefEqProofs (disch := first | omega | (simp only [List.length_append, List.length_cons, List.length_nil, List.length_take, List.length_drop]; omega)) only [hs, str_get hvB, hgf, ↓aPre, aPost, oneW, allOne, retV, retVA, simprocAttr]
      refine round_of ⟨k + 1, by omega, ?_⟩ ?_
      · simp -dsimp -implicitDefEqProofs (disch := first | omega | (simp only [List.length_append, List.length_cons, List.length_nil, List.length_take, List.length_drop]; omega)) only [hs, str_get hvB, hgf, gvK, ↓aPre, aPost, oneW, allOne, retV, retVA, simprocAttr]
      · simp -dsimp -implicitDefEqProofs (disch := first | omega | (simp only [List.length_append, List.length_cons, List.length_nil, List.length_take, List.length_drop]; omega)) only [hs, ↓aPre, aPost, oneW, allOne, retV, retVA, simprocAttr]
        omega
    · simp -dsimp -implicitDefEqProofs (disch := first | omega | (simp only [List.length_append, List.length_cons, List.length_nil, List.length_take, List.length_drop]; omega)) only [hs, ↓aPre, aPost, oneW, allOne, retV, retVA, simprocAttr]
      obtain rfl : k = v.length := by omega
      rw [hvl]
      exact post_eq rfl
theorem win_f (b : List Int) (at_ n : Nat) (hl : b.length ≤ 1000000) (h : b.length < at_ + n) (ha : at_ + n < 18446744073709551616) : Giv Try.prog 27 [.lst 1 (li .u8 b), .c (.int .u64 at_), .c (.int .u64 n)] (retV [.lst 1 [], .c (.int .i64 2)]) := by
  refine Giv.of mixed c27 (Nat.le_of_ble_eq_true rfl) ?_
  have hgt : (at_ : Int) + (n : Int) > (b.length : Int) := by omega
  simp -dsimp -implicitDefEqProofs (disch := first | omega | (simp only [List.length_append, List.length_cons, List.length_nil, List.length_take, List.length_drop]; omega)) only [a27, ↓aPre, aPost, oneW, allOne, retV, retVA, simprocAttr]
  refine call_giv (add_t at_ n (by omega) (by omega) (by omega)) ?_
  simp -dsimp -implicitDefEqProofs (disch := first | omega | (simp only [List.length_append, List.length_cons, List.length_nil, List.length_take, List.length_drop]; omega)) only [hgt, ↓aPre, aPost, oneW, allOne, retV, retVA, simprocAttr]
  exact post_le (by repeat (first | exact leD.nil | exact leE.refl _ | exact leE.nil _ | refine leD.cons ?_ ?_ | refine leE.agg ?_))
theorem get_f (b : List Int) (at_ : Nat) (n : Nat) (big : Bool) (hn : sizedP n) (hl : b.length ≤ 1000000) (h : b.length < at_ + n) (ha : at_ + n < 18446744073709551616) : Giv Try.prog 26 [.lst 1 (li .u8 b), .c (.int .u64 at_), .c (.int .i64 n), .c (.bool big)] (retV [.c (.int .u64 0), .c (.int .i64 2)]) := by
  refine Giv.of mixed c26 (Nat.le_of_ble_eq_true rfl) ?_
  have hn8 : n ≤ 8 := by unfold sizedP at hn; omega
  simp -dsimp -implicitDefEqProofs (disch := first | omega | (simp only [List.length_append, List.length_cons, List.length_nil, List.length_take, List.length_drop]; omega)) only [a26, ↓aPre, aPost, oneW, allOne, retV, retVA, simprocAttr]
  refine call_giv (sized_t hn) ?_
  simp -dsimp -implicitDefEqProofs (disch := first | omega | (simp only [List.length_append, List.length_cons, List.length_nil, List.length_take, List.length_drop]; omega)) only [↓aPre, aPost, oneW, allOne, retV, retVA, simprocAttr]
  refine call_giv (win_f b at_ n hl h ha) ?_
  simp -dsimp -implicitDefEqProofs (disch := first | omega | (simp only [List.length_append, List.length_cons, List.length_nil, List.length_take, List.length_drop]; omega)) only [↓aPre, aPost, oneW, allOne, retV, retVA, simprocAttr]
  exact post_eq rfl
theorem sizes_giv (wide : Bool) : Giv Try.prog 25 [.c (.bool wide)] (retV (if wide = true then [.c (.int .i64 8), .c (.int .i64 20), .c (.int .i64 8)] else [.c (.int .i64 2), .c (.int .i64 12), .c (.int .i64 4)])) := by
  refine Giv.of mixed c25 (Nat.le_of_ble_eq_true rfl) ?_
  cases wide
  all_goals
    simp -dsimp -implicitDefEqProofs (disch := first | omega | (simp only [List.length_append, List.length_cons, List.length_nil, List.length_take, List.length_drop]; omega)) only [a25, ↓aPre, aPost, oneW, allOne, retV, retVA, simprocAttr]
    exact post_eq rfl
end Go.Proofs.Ytpjnpmdmcllilaa
