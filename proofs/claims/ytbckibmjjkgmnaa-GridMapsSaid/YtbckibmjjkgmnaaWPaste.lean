/- Grids over other ones. No condition but what each says. -/
import Derived.Test.YtbckibmjjkgmnaaWOf
set_option linter.unusedSimpArgs false
set_option linter.unusedVariables false
set_option maxRecDepth 8000
set_option maxHeartbeats 4000000
namespace Go.Proofs.Ytbckibmjjkgmnaa
open Go.Eng Go.RowKit
theorem spl_getD (a b : List Int) (off : Nat) (h : off + b.length ≤ a.length) (m : Nat) : (spl a off b).getD m 0 = if m < off then a.getD m 0 else if m < off + b.length then b.getD (m - off) 0 else a.getD m 0 := by
  simp only [List.getD]
  rw [spl_get h]
  split
  · rfl
  · split <;> rfl
/-- rows up to i are laid over -/
def pasG (W : Nat) (l : List Int) (pW : Nat) (q : List Int) (x y i : Nat) (r c : Nat) : Int := if y ≤ r ∧ r < y + i ∧ x ≤ c ∧ c < x + pW then q.getD ((r - y) * pW + (c - x)) 0 else l.getD (r * W + c) 0
theorem grF_div (g : Nat → Nat → Int) (B m : Nat) (hB : 0 < B) : ∃ r c, m = r * B + c ∧ c < B ∧ grF g B m = g r c := ⟨m / B, m % B, by have := Nat.div_add_mod m B; rw [Nat.mul_comm] at this; exact this.symm, Nat.mod_lt _ hB, rfl⟩
theorem pas_step (W H : Nat) (l : List Int) (pW pH : Nat) (q : List Int) (x y i : Nat) (hx : x < W) (hi : y + i < H) (hp : i < pH) (hq : q.length = pW * pH) :
    spl (tab (grF (pasG W l pW q x y i) W) (H * W)) ((y + i) * W + x) (((q.drop (i * pW)).take pW).take (W - x)) = tab (grF (pasG W l pW q x y (i + 1)) W) (H * W) := by
  have h1 := place_lt (A := pH) (B := pW) (i := i) (j := 0)
  have hq1 : (i + 1) * pW ≤ pH * pW := Nat.mul_le_mul_right _ hp
  rw [Nat.add_mul, Nat.one_mul, Nat.mul_comm pH pW, ← hq] at hq1
  have hbl : (((q.drop (i * pW)).take pW).take (W - x)).length = min pW (W - x) := by
    rw [List.length_take, List.length_take, List.length_drop]; omega
  have hrow : (y + i + 1) * W ≤ H * W := Nat.mul_le_mul_right _ hi
  rw [Nat.add_mul (y + i), Nat.one_mul] at hrow
  have hfit : (y + i) * W + x + min pW (W - x) ≤ H * W := by omega
  refine list_tab (by rw [spl_len (by rw [hbl, tab_len]; exact hfit), tab_len]) fun m hm => ?_
  rw [spl_getD _ _ _ (by rw [hbl, tab_len]; exact hfit), hbl, tab_get _ hm]
  obtain ⟨r, c, hmrc, hc, _⟩ := grF_div (pasG W l pW q x y i) W m (by omega)
  have e1 : grF (pasG W l pW q x y i) W m = pasG W l pW q x y i r c := by rw [hmrc, grF_at _ hc]
  have e2 : grF (pasG W l pW q x y (i + 1)) W m = pasG W l pW q x y (i + 1) r c := by rw [hmrc, grF_at _ hc]
  rw [e1, e2]
  unfold pasG
  rcases Nat.lt_trichotomy r (y + i) with hr | hr | hr
  · have : (r + 1) * W ≤ (y + i) * W := Nat.mul_le_mul_right _ hr
    rw [Nat.add_mul, Nat.one_mul] at this
    rw [if_pos (by omega)]
    by_cases cc : y ≤ r ∧ r < y + i ∧ x ≤ c ∧ c < x + pW
    · rw [if_pos cc, if_pos ⟨cc.1, by omega, cc.2.2.1, cc.2.2.2⟩]
    · rw [if_neg cc, if_neg (fun k => cc ⟨k.1, hr, k.2.2.1, k.2.2.2⟩)]
  · subst hr
    by_cases c1 : c < x
    · rw [if_pos (by omega), if_neg (by omega), if_neg (by omega)]
    · by_cases c2 : c < x + min pW (W - x)
      · rw [if_neg (by omega), if_pos (by omega), if_pos (by omega)]
        rw [getD_take, if_pos (by omega), getD_take, if_pos (by omega), getD_drop]
        congr 1
        rw [show y + i - y = i by omega]
        omega
      · rw [if_neg (by omega), if_neg (by omega), if_neg (by omega), if_neg (by omega)]
  · have : (y + i + 1) * W ≤ r * W := Nat.mul_le_mul_right _ hr
    rw [Nat.add_mul (y + i), Nat.one_mul] at this
    rw [if_neg (by omega), if_neg (by omega), if_neg (by omega), if_neg (by omega)]
def pasL (W H : Nat) (l : List Int) (pW pH : Nat) (q : List Int) (x y : Nat) : List Int := grL (pasG W l pW q x y pH) H W
theorem pas_f (W H : Int) (l : List Int) (pW pH : Int) (q : List Int) (x y : Int) (hl : l.length * 8 ≤ 140737488355328) (hq : q.length ≤ 140737488355328) (h : ¬ (rightP pW pH q ∧ hasP W H l x y)) : Giv Try.prog 14 [gD W H l, gD pW pH q, .c (.int .i64 x), .c (.int .i64 y)] (retV [gD W H l, .c (.int .i64 1)]) := by
  refine Giv.of mixed c14 (Nat.le_of_ble_eq_true rfl) ?_
  simp -dsimp -implicitDefEqProofs (disch := first | omega | (simp only [List.length_append, List.length_cons, List.length_nil, List.length_take, List.length_drop]; omega)) only [a14, gD, ↓aPre, aPost, oneW, allOne, retV, retVA, ↓reduceIte, reduceCtorEq, Nat.reduceAdd, Nat.reduceSub, Nat.reduceMul, Nat.reduceLT, Nat.reduceLeDiff, Nat.reduceEqDiff, Nat.reduceDiv, Nat.reduceMod, Nat.reducePow, Int.reduceAdd, Int.reduceSub, Int.reduceMul, Int.reduceLT, Int.reduceLE, Int.reduceEq, Int.reduceNe, Int.reducePow, Int.reduceToNat, Int.reduceNeg]
  refine call_giv (clone_giv W H l hl) ?_
  simp -dsimp -implicitDefEqProofs (disch := first | omega | (simp only [List.length_append, List.length_cons, List.length_nil, List.length_take, List.length_drop]; omega)) only [gD, ↓aPre, aPost, oneW, allOne, retV, retVA, ↓reduceIte, reduceCtorEq, Nat.reduceAdd, Nat.reduceSub, Nat.reduceMul, Nat.reduceLT, Nat.reduceLeDiff, Nat.reduceEqDiff, Nat.reduceDiv, Nat.reduceMod, Nat.reducePow, Int.reduceAdd, Int.reduceSub, Int.reduceMul, Int.reduceLT, Int.reduceLE, Int.reduceEq, Int.reduceNe, Int.reducePow, Int.reduceToNat, Int.reduceNeg]
  refine call_giv (right_giv W H l (by omega)) ?_
  by_cases hr : rightP W H l
  · simp -dsimp -implicitDefEqProofs (disch := first | omega | (simp only [List.length_append, List.length_cons, List.length_nil, List.length_take, List.length_drop]; omega)) only [hr, ↓aPre, aPost, oneW, allOne, retV, retVA, ↓reduceIte, reduceCtorEq, Nat.reduceAdd, Nat.reduceSub, Nat.reduceMul, Nat.reduceLT, Nat.reduceLeDiff, Nat.reduceEqDiff, Nat.reduceDiv, Nat.reduceMod, Nat.reducePow, Int.reduceAdd, Int.reduceSub, Int.reduceMul, Int.reduceLT, Int.reduceLE, Int.reduceEq, Int.reduceNe, Int.reducePow, Int.reduceToNat, Int.reduceNeg]
    refine call_giv (right_giv pW pH q (by omega)) ?_
    by_cases hp : rightP pW pH q
    · by_cases h1 : x < 0
      · simp -dsimp -implicitDefEqProofs (disch := first | omega | (simp only [List.length_append, List.length_cons, List.length_nil, List.length_take, List.length_drop]; omega)) only [hp, hr, ↓aPre, aPost, oneW, allOne, retV, retVA, ↓reduceIte, reduceCtorEq, Nat.reduceAdd, Nat.reduceSub, Nat.reduceMul, Nat.reduceLT, Nat.reduceLeDiff, Nat.reduceEqDiff, Nat.reduceDiv, Nat.reduceMod, Nat.reducePow, Int.reduceAdd, Int.reduceSub, Int.reduceMul, Int.reduceLT, Int.reduceLE, Int.reduceEq, Int.reduceNe, Int.reducePow, Int.reduceToNat, Int.reduceNeg]
        exact post_eq rfl
      by_cases h2 : y < 0
      · simp -dsimp -implicitDefEqProofs (disch := first | omega | (simp only [List.length_append, List.length_cons, List.length_nil, List.length_take, List.length_drop]; omega)) only [hp, hr, ↓aPre, aPost, oneW, allOne, retV, retVA, ↓reduceIte, reduceCtorEq, Nat.reduceAdd, Nat.reduceSub, Nat.reduceMul, Nat.reduceLT, Nat.reduceLeDiff, Nat.reduceEqDiff, Nat.reduceDiv, Nat.reduceMod, Nat.reducePow, Int.reduceAdd, Int.reduceSub, Int.reduceMul, Int.reduceLT, Int.reduceLE, Int.reduceEq, Int.reduceNe, Int.reducePow, Int.reduceToNat, Int.reduceNeg]
        exact post_eq rfl
      by_cases h3 : W ≤ x
      · simp -dsimp -implicitDefEqProofs (disch := first | omega | (simp only [List.length_append, List.length_cons, List.length_nil, List.length_take, List.length_drop]; omega)) only [hp, hr, ↓aPre, aPost, oneW, allOne, retV, retVA, ↓reduceIte, reduceCtorEq, Nat.reduceAdd, Nat.reduceSub, Nat.reduceMul, Nat.reduceLT, Nat.reduceLeDiff, Nat.reduceEqDiff, Nat.reduceDiv, Nat.reduceMod, Nat.reducePow, Int.reduceAdd, Int.reduceSub, Int.reduceMul, Int.reduceLT, Int.reduceLE, Int.reduceEq, Int.reduceNe, Int.reducePow, Int.reduceToNat, Int.reduceNeg]
        exact post_eq rfl
      by_cases h4 : H ≤ y
      · simp -dsimp -implicitDefEqProofs (disch := first | omega | (simp only [List.length_append, List.length_cons, List.length_nil, List.length_take, List.length_drop]; omega)) only [hp, hr, ↓aPre, aPost, oneW, allOne, retV, retVA, ↓reduceIte, reduceCtorEq, Nat.reduceAdd, Nat.reduceSub, Nat.reduceMul, Nat.reduceLT, Nat.reduceLeDiff, Nat.reduceEqDiff, Nat.reduceDiv, Nat.reduceMod, Nat.reducePow, Int.reduceAdd, Int.reduceSub, Int.reduceMul, Int.reduceLT, Int.reduceLE, Int.reduceEq, Int.reduceNe, Int.reducePow, Int.reduceToNat, Int.reduceNeg]
        exact post_eq rfl
      exact (h ⟨hp, hr, by omega, by omega, by omega, by omega⟩).elim
    · simp -dsimp -implicitDefEqProofs (disch := first | omega | (simp only [List.length_append, List.length_cons, List.length_nil, List.length_take, List.length_drop]; omega)) only [hp, hr, ↓aPre, aPost, oneW, allOne, retV, retVA, ↓reduceIte, reduceCtorEq, Nat.reduceAdd, Nat.reduceSub, Nat.reduceMul, Nat.reduceLT, Nat.reduceLeDiff, Nat.reduceEqDiff, Nat.reduceDiv, Nat.reduceMod, Nat.reducePow, Int.reduceAdd, Int.reduceSub, Int.reduceMul, Int.reduceLT, Int.reduceLE, Int.reduceEq, Int.reduceNe, Int.reducePow, Int.reduceToNat, Int.reduceNeg]
      exact post_eq rfl
  · simp -dsimp -implicitDefEqProofs (disch := first | omega | (simp only [List.length_append, List.length_cons, List.length_nil, List.length_take, List.length_drop]; omega)) only [hr, ↓aPre, aPost, oneW, allOne, retV, retVA, ↓reduceIte, reduceCtorEq, Nat.reduceAdd, Nat.reduceSub, Nat.reduceMul, Nat.reduceLT, Nat.reduceLeDiff, Nat.reduceEqDiff, Nat.reduceDiv, Nat.reduceMod, Nat.reducePow, Int.reduceAdd, Int.reduceSub, Int.reduceMul, Int.reduceLT, Int.reduceLE, Int.reduceEq, Int.reduceNe, Int.reducePow, Int.reduceToNat, Int.reduceNeg]
    exact post_eq rfl
theorem pas_end (W H : Nat) (l : List Int) (pW pH : Nat) (q : List Int) (x y i : Nat) (hi : i = min pH (H - y)) : tab (grF (pasG W l pW q x y i) W) (H * W) = pasL W H l pW pH q x y := grL_congr fun r c hr hc => by
  unfold pasG
  by_cases cc : y ≤ r ∧ r < y + i ∧ x ≤ c ∧ c < x + pW
  · rw [if_pos cc, if_pos (by omega)]
  · rw [if_neg cc, if_neg (by omega)]
theorem pas_0 (W H : Nat) (l : List Int) (hl : l.length = W * H) (pW : Nat) (q : List Int) (x y : Nat) : tab (grF (pasG W l pW q x y 0) W) (H * W) = l := by
  have := list_tab (l := l) (f := grF (pasG W l pW q x y 0) W) (n := H * W) (by rw [hl, Nat.mul_comm]) fun m hm => by
    have hW : 0 < W := by
      rcases Nat.eq_zero_or_pos W with h | h
      · rw [h] at hm; omega
      · exact h
    obtain ⟨r, c, hmrc, hc, h⟩ := grF_div (pasG W l pW q x y 0) W m hW
    have : grF (pasG W l pW q x y 0) W m = pasG W l pW q x y 0 r c := by rw [hmrc, grF_at _ hc]
    rw [this, pasG, if_neg (by omega), hmrc]
  exact this.symm
theorem pas_t (W H : Nat) (l : List Int) (pW pH : Nat) (q : List Int) (x y : Nat) (hr : rightP W H l) (hp : rightP pW pH q) (hW : W ≤ 4194304) (hH : H ≤ 4194304) (hWH : W * H ≤ 4194304) (hl : l.length = W * H)
    (hpW : pW ≤ 4194304) (hpH : pH ≤ 4194304) (hpWH : pW * pH ≤ 4194304) (hq : q.length = pW * pH) (hx : x < W) (hy : y < H) :
    Giv Try.prog 14 [gD W H l, gD pW pH q, .c (.int .i64 x), .c (.int .i64 y)] (retV [gD W H (pasL W H l pW pH q x y), .c (.int .i64 0)]) := by
  refine Giv.of mixed c14 (Nat.le_of_ble_eq_true rfl) ?_
  obtain ⟨n, hn⟩ : ∃ n : Nat, n = H * W := ⟨_, rfl⟩
  have hln : l.length = n := by rw [hl, hn, Nat.mul_comm]
  have hn4 : n ≤ 4194304 := by rw [hn, Nat.mul_comm]; exact hWH
  have hco := clone_own W H l (by omega)
  rw [hln] at hco
  obtain ⟨t, ht⟩ : ∃ t : Nat, t = min pH (H - y) := ⟨_, rfl⟩
  have et2 : (if (H : Int) - y < (pH : Int) then (H : Int) - y else (pH : Int)) = t := by split <;> omega
  have e00 := pas_0 W H l hl pW q x y
  rw [← hn] at e00
  simp -dsimp -implicitDefEqProofs (disch := first | omega | (simp only [List.length_append, List.length_cons, List.length_nil, List.length_take, List.length_drop]; omega)) only [a14, gD, ↓aPre, aPost, oneW, allOne, retV, retVA, ↓reduceIte, reduceCtorEq, Nat.reduceAdd, Nat.reduceSub, Nat.reduceMul, Nat.reduceLT, Nat.reduceLeDiff, Nat.reduceEqDiff, Nat.reduceDiv, Nat.reduceMod, Nat.reducePow, Int.reduceAdd, Int.reduceSub, Int.reduceMul, Int.reduceLT, Int.reduceLE, Int.reduceEq, Int.reduceNe, Int.reducePow, Int.reduceToNat, Int.reduceNeg]
  refine call_own hco ?_
  simp -dsimp -implicitDefEqProofs (disch := first | omega | (simp only [List.length_append, List.length_cons, List.length_nil, List.length_take, List.length_drop]; omega)) only [AV.ren, Ob.ren, ↓aPre, aPost, oneW, allOne, retV, retVA, ↓reduceIte, reduceCtorEq, Nat.reduceAdd, Nat.reduceSub, Nat.reduceMul, Nat.reduceLT, Nat.reduceLeDiff, Nat.reduceEqDiff, Nat.reduceDiv, Nat.reduceMod, Nat.reducePow, Int.reduceAdd, Int.reduceSub, Int.reduceMul, Int.reduceLT, Int.reduceLE, Int.reduceEq, Int.reduceNe, Int.reducePow, Int.reduceToNat, Int.reduceNeg]
  refine call_giv (right_giv W H l (by omega)) ?_
  simp -dsimp -implicitDefEqProofs (disch := first | omega | (simp only [List.length_append, List.length_cons, List.length_nil, List.length_take, List.length_drop]; omega)) only [hr, AV.ren, Ob.ren, ↓aPre, aPost, oneW, allOne, retV, retVA, ↓reduceIte, reduceCtorEq, Nat.reduceAdd, Nat.reduceSub, Nat.reduceMul, Nat.reduceLT, Nat.reduceLeDiff, Nat.reduceEqDiff, Nat.reduceDiv, Nat.reduceMod, Nat.reducePow, Int.reduceAdd, Int.reduceSub, Int.reduceMul, Int.reduceLT, Int.reduceLE, Int.reduceEq, Int.reduceNe, Int.reducePow, Int.reduceToNat, Int.reduceNeg]
  refine call_giv (right_giv pW pH q (by omega)) ?_
  simp -dsimp -implicitDefEqProofs (disch := first | omega | (simp only [List.length_append, List.length_cons, List.length_nil, List.length_take, List.length_drop]; omega)) only [hr, hp, AV.ren, Ob.ren, et2, ↓aPre, aPost, oneW, allOne, retV, retVA, ↓reduceIte, reduceCtorEq, Nat.reduceAdd, Nat.reduceSub, Nat.reduceMul, Nat.reduceLT, Nat.reduceLeDiff, Nat.reduceEqDiff, Nat.reduceDiv, Nat.reduceMod, Nat.reducePow, Int.reduceAdd, Int.reduceSub, Int.reduceMul, Int.reduceLT, Int.reduceLE, Int.reduceEq, Int.reduceNe, Int.reducePow, Int.reduceToNat, Int.reduceNeg]
  refine loop_of (fun s => ∃ (i : Nat), i ≤ t ∧ s.tm 50 = .d (.c (.int .i64 i)) ∧ s.tm 49 = .d (.c (.int .i64 t)) ∧ s.tm 4 = .ptr 4 0 ∧ s.hp 4 = some (.box [.d (.c (.int .i64 W)), .d (.c (.int .i64 H)), .d (.lst 1 (li .i64 l))]) ∧ s.tm 5 = .ptr 5 0 ∧ s.hp 5 = some (.box [.d (.c (.int .i64 pW)), .d (.c (.int .i64 pH)), .d (.lst 1 (li .i64 q))]) ∧ s.tm 8 = .ptr 8 0 ∧ s.hp 8 = some (.box [.d (.c (.int .i64 0)), .d (.c (.int .i64 0)), .d (.c (.slice none 0 0))]) ∧ s.tm 2 = .d (.c (.int .i64 x)) ∧ s.tm 3 = .d (.c (.int .i64 y)) ∧ s.tm 10 = .ptr 10 0 ∧ s.hp 10 = some (.box [.d (.c (.int .i64 W)), .d (.c (.int .i64 H)), .sl 13 1 0 n]) ∧ s.hp 13 = some (.row 1 (li .i64 (tab (grF (pasG W l pW q x y i) W) n)))) (fun s => t - (avN (s.tm 50)).toNat) ?_ ?_
  · refine ⟨0, Nat.zero_le _, ?_⟩
    simp -dsimp -implicitDefEqProofs (disch := first | omega | (simp only [List.length_append, List.length_cons, List.length_nil, List.length_take, List.length_drop]; omega)) only [AV.ren, Ob.ren, Int.natCast_zero, e00, et2, ↓aPre, aPost, oneW, allOne, retV, retVA, ↓reduceIte, reduceCtorEq, Nat.reduceAdd, Nat.reduceSub, Nat.reduceMul, Nat.reduceLT, Nat.reduceLeDiff, Nat.reduceEqDiff, Nat.reduceDiv, Nat.reduceMod, Nat.reducePow, Int.reduceAdd, Int.reduceSub, Int.reduceMul, Int.reduceLT, Int.reduceLE, Int.reduceEq, Int.reduceNe, Int.reducePow, Int.reduceToNat, Int.reduceNeg]
  rintro s ⟨i, hi, hs⟩
  have el := tab_len (grF (pasG W l pW q x y i) W) n
  by_cases hlt : i < t
  · have hb1 : (y + i + 1) * W ≤ H * W := Nat.mul_le_mul_right _ (by omega)
    rw [Nat.add_mul (y + i), Nat.one_mul, ← hn] at hb1
    have hb2 : (i + 1) * pW ≤ pH * pW := Nat.mul_le_mul_right _ (by omega)
    rw [Nat.add_mul, Nat.one_mul, Nat.mul_comm pH, ← hq] at hb2
    have es := pas_step W H l pW pH q x y i hx (by omega) (by omega) hq
    rw [← hn] at es
    obtain ⟨u, hu⟩ : ∃ u : Nat, u = (y + i) * W := ⟨_, rfl⟩
    obtain ⟨v, hv⟩ : ∃ v : Nat, v = i * pW := ⟨_, rfl⟩
    have hu2 : ((y : Int) + i) * (W : Int) = u := by rw [hu, Int.natCast_mul, Int.natCast_add]
    have hu3 : ((y : Int) + i + 1) * (W : Int) = u + W := by rw [Int.add_mul, hu2, Int.one_mul]
    have hv2 : (i : Int) * (pW : Int) = v := by rw [hv, Int.natCast_mul]
    have hv3 : ((i : Int) + 1) * (pW : Int) = v + pW := by rw [Int.add_mul, hv2, Int.one_mul]
    rw [← hu] at hb1
    rw [← hv] at hb2
    rw [← hu, ← hv] at es
    have e1 : ((u : Int) + x).toNat = u + x := by omega
    have e2 : ((u : Int) + W).toNat - (u + x) = W - x := by omega
    have e3 : ((v : Int) + pW).toNat - v = pW := by omega
    simp -dsimp -implicitDefEqProofs (disch := first | omega | (simp only [List.length_append, List.length_cons, List.length_nil, List.length_take, List.length_drop]; omega)) only [hs, hu2, hu3, hv2, hv3, e1, e2, e3, el, es, ↓aPre, aPost, oneW, allOne, retV, retVA, ↓reduceIte, reduceCtorEq, Nat.reduceAdd, Nat.reduceSub, Nat.reduceMul, Nat.reduceLT, Nat.reduceLeDiff, Nat.reduceEqDiff, Nat.reduceDiv, Nat.reduceMod, Nat.reducePow, Int.reduceAdd, Int.reduceSub, Int.reduceMul, Int.reduceLT, Int.reduceLE, Int.reduceEq, Int.reduceNe, Int.reducePow, Int.reduceToNat, Int.reduceNeg]
    refine round_of ⟨i + 1, by omega, ?_⟩ ?_
    · simp -dsimp -implicitDefEqProofs (disch := first | omega | (simp only [List.length_append, List.length_cons, List.length_nil, List.length_take, List.length_drop]; omega)) only [hs, hu2, hu3, hv2, hv3, e1, e2, e3, el, es, ↓aPre, aPost, oneW, allOne, retV, retVA, ↓reduceIte, reduceCtorEq, Nat.reduceAdd, Nat.reduceSub, Nat.reduceMul, Nat.reduceLT, Nat.reduceLeDiff, Nat.reduceEqDiff, Nat.reduceDiv, Nat.reduceMod, Nat.reducePow, Int.reduceAdd, Int.reduceSub, Int.reduceMul, Int.reduceLT, Int.reduceLE, Int.reduceEq, Int.reduceNe, Int.reducePow, Int.reduceToNat, Int.reduceNeg]
    · simp -dsimp -implicitDefEqProofs (disch := first | omega | (simp only [List.length_append, List.length_cons, List.length_nil, List.length_take, List.length_drop]; omega)) only [hs, ↓aPre, aPost, oneW, allOne, retV, retVA, ↓reduceIte, reduceCtorEq, Nat.reduceAdd, Nat.reduceSub, Nat.reduceMul, Nat.reduceLT, Nat.reduceLeDiff, Nat.reduceEqDiff, Nat.reduceDiv, Nat.reduceMod, Nat.reducePow, Int.reduceAdd, Int.reduceSub, Int.reduceMul, Int.reduceLT, Int.reduceLE, Int.reduceEq, Int.reduceNe, Int.reducePow, Int.reduceToNat, Int.reduceNeg]
      omega
  · have hie : i = t := by omega
    have ee := pas_end W H l pW pH q x y i (by omega)
    rw [← hn] at ee
    have el2 : (pasL W H l pW pH q x y).length = n := by rw [← ee, tab_len]
    rw [ee] at hs
    simp -dsimp -implicitDefEqProofs (disch := first | omega | (simp only [List.length_append, List.length_cons, List.length_nil, List.length_take, List.length_drop]; omega)) only [hs, el2, ↓aPre, aPost, oneW, allOne, retV, retVA, ↓reduceIte, reduceCtorEq, Nat.reduceAdd, Nat.reduceSub, Nat.reduceMul, Nat.reduceLT, Nat.reduceLeDiff, Nat.reduceEqDiff, Nat.reduceDiv, Nat.reduceMod, Nat.reducePow, Int.reduceAdd, Int.reduceSub, Int.reduceMul, Int.reduceLT, Int.reduceLE, Int.reduceEq, Int.reduceNe, Int.reducePow, Int.reduceToNat, Int.reduceNeg]
    exact post_eq rfl
theorem rpas_f (W H : Int) (l : List Int) (pW pH : Int) (q : List Int) (x y : Int) (hl : l.length * 8 ≤ 140737488355328) (hq : q.length ≤ 140737488355328) (h : ¬ (rightP pW pH q ∧ hasP W H l x y)) : Giv Try.prog 15 [gD W H l, gD pW pH q, .c (.int .i64 x), .c (.int .i64 y)] (retV [gD W H l, .c (.int .i64 1)]) := by
  refine Giv.of mixed c15 (Nat.le_of_ble_eq_true rfl) ?_
  simp -dsimp -implicitDefEqProofs (disch := first | omega | (simp only [List.length_append, List.length_cons, List.length_nil, List.length_take, List.length_drop]; omega)) only [a15, gD, ↓aPre, aPost, oneW, allOne, retV, retVA, ↓reduceIte, reduceCtorEq, Nat.reduceAdd, Nat.reduceSub, Nat.reduceMul, Nat.reduceLT, Nat.reduceLeDiff, Nat.reduceEqDiff, Nat.reduceDiv, Nat.reduceMod, Nat.reducePow, Int.reduceAdd, Int.reduceSub, Int.reduceMul, Int.reduceLT, Int.reduceLE, Int.reduceEq, Int.reduceNe, Int.reducePow, Int.reduceToNat, Int.reduceNeg]
  refine call_giv (rright_giv pW pH q hq) ?_
  by_cases hr : rightP pW pH q
  · have hh : ¬ hasP W H l x y := fun k => h ⟨hr, k⟩
    simp -dsimp -implicitDefEqProofs (disch := first | omega | (simp only [List.length_append, List.length_cons, List.length_nil, List.length_take, List.length_drop]; omega)) only [hr, ↓aPre, aPost, oneW, allOne, retV, retVA, ↓reduceIte, reduceCtorEq, Nat.reduceAdd, Nat.reduceSub, Nat.reduceMul, Nat.reduceLT, Nat.reduceLeDiff, Nat.reduceEqDiff, Nat.reduceDiv, Nat.reduceMod, Nat.reducePow, Int.reduceAdd, Int.reduceSub, Int.reduceMul, Int.reduceLT, Int.reduceLE, Int.reduceEq, Int.reduceNe, Int.reducePow, Int.reduceToNat, Int.reduceNeg]
    refine call_giv (has_giv W H l x y (by omega)) ?_
    simp -dsimp -implicitDefEqProofs (disch := first | omega | (simp only [List.length_append, List.length_cons, List.length_nil, List.length_take, List.length_drop]; omega)) only [hr, hh, ↓aPre, aPost, oneW, allOne, retV, retVA, ↓reduceIte, reduceCtorEq, Nat.reduceAdd, Nat.reduceSub, Nat.reduceMul, Nat.reduceLT, Nat.reduceLeDiff, Nat.reduceEqDiff, Nat.reduceDiv, Nat.reduceMod, Nat.reducePow, Int.reduceAdd, Int.reduceSub, Int.reduceMul, Int.reduceLT, Int.reduceLE, Int.reduceEq, Int.reduceNe, Int.reducePow, Int.reduceToNat, Int.reduceNeg]
    exact post_eq rfl
  · simp -dsimp -implicitDefEqProofs (disch := first | omega | (simp only [List.length_append, List.length_cons, List.length_nil, List.length_take, List.length_drop]; omega)) only [hr, ↓aPre, aPost, oneW, allOne, retV, retVA, ↓reduceIte, reduceCtorEq, Nat.reduceAdd, Nat.reduceSub, Nat.reduceMul, Nat.reduceLT, Nat.reduceLeDiff, Nat.reduceEqDiff, Nat.reduceDiv, Nat.reduceMod, Nat.reducePow, Int.reduceAdd, Int.reduceSub, Int.reduceMul, Int.reduceLT, Int.reduceLE, Int.reduceEq, Int.reduceNe, Int.reducePow, Int.reduceToNat, Int.reduceNeg]
    exact post_eq rfl
theorem rpas_t (W H : Nat) (l : List Int) (pW pH : Nat) (q : List Int) (x y : Nat) (hr : rightP W H l) (hp : rightP pW pH q) (hW : W ≤ 4194304) (hH : H ≤ 4194304) (hWH : W * H ≤ 4194304) (hl : l.length = W * H)
    (hpW : pW ≤ 4194304) (hpH : pH ≤ 4194304) (hpWH : pW * pH ≤ 4194304) (hq : q.length = pW * pH) (hx : x < W) (hy : y < H) :
    Giv Try.prog 15 [gD W H l, gD pW pH q, .c (.int .i64 x), .c (.int .i64 y)] (retV [gD W H (pasL W H l pW pH q x y), .c (.int .i64 0)]) := by
  refine Giv.of mixed c15 (Nat.le_of_ble_eq_true rfl) ?_
  have hh : hasP W H l x y := ⟨hr, by omega, by omega, by omega, by omega⟩
  obtain ⟨n, hn⟩ : ∃ n : Nat, n = H * W := ⟨_, rfl⟩
  have hln : l.length = n := by rw [hl, hn, Nat.mul_comm]
  have hn4 : n ≤ 4194304 := by rw [hn, Nat.mul_comm]; exact hWH
  obtain ⟨g, hg⟩ : ∃ g, g = grF (pasG W l pW q x y pH) W := ⟨_, rfl⟩
  simp -dsimp -implicitDefEqProofs (disch := first | omega | (simp only [List.length_append, List.length_cons, List.length_nil, List.length_take, List.length_drop]; omega)) only [a15, gD, ↓aPre, aPost, oneW, allOne, retV, retVA, ↓reduceIte, reduceCtorEq, Nat.reduceAdd, Nat.reduceSub, Nat.reduceMul, Nat.reduceLT, Nat.reduceLeDiff, Nat.reduceEqDiff, Nat.reduceDiv, Nat.reduceMod, Nat.reducePow, Int.reduceAdd, Int.reduceSub, Int.reduceMul, Int.reduceLT, Int.reduceLE, Int.reduceEq, Int.reduceNe, Int.reducePow, Int.reduceToNat, Int.reduceNeg]
  refine call_giv (rright_giv pW pH q (by omega)) ?_
  simp -dsimp -implicitDefEqProofs (disch := first | omega | (simp only [List.length_append, List.length_cons, List.length_nil, List.length_take, List.length_drop]; omega)) only [hp, ↓aPre, aPost, oneW, allOne, retV, retVA, ↓reduceIte, reduceCtorEq, Nat.reduceAdd, Nat.reduceSub, Nat.reduceMul, Nat.reduceLT, Nat.reduceLeDiff, Nat.reduceEqDiff, Nat.reduceDiv, Nat.reduceMod, Nat.reducePow, Int.reduceAdd, Int.reduceSub, Int.reduceMul, Int.reduceLT, Int.reduceLE, Int.reduceEq, Int.reduceNe, Int.reducePow, Int.reduceToNat, Int.reduceNeg]
  refine call_giv (has_giv W H l x y (by omega)) ?_
  simp -dsimp -implicitDefEqProofs (disch := first | omega | (simp only [List.length_append, List.length_cons, List.length_nil, List.length_take, List.length_drop]; omega)) only [hp, hh, ↓aPre, aPost, oneW, allOne, retV, retVA, ↓reduceIte, reduceCtorEq, Nat.reduceAdd, Nat.reduceSub, Nat.reduceMul, Nat.reduceLT, Nat.reduceLeDiff, Nat.reduceEqDiff, Nat.reduceDiv, Nat.reduceMod, Nat.reducePow, Int.reduceAdd, Int.reduceSub, Int.reduceMul, Int.reduceLT, Int.reduceLE, Int.reduceEq, Int.reduceNe, Int.reducePow, Int.reduceToNat, Int.reduceNeg]
  refine loop_nilB 10 2 100 1 [.d (.c (.int .i64 W)), .d (.c (.int .i64 H)), .d (.c (.slice none 0 0))] (fun s => ∃ (m : Nat), m ≤ n ∧ s.tm 11 = .d (.c (.int .i64 m)) ∧ s.tm 4 = .ptr 4 0 ∧ s.hp 4 = some (.box [.d (.c (.int .i64 W)), .d (.c (.int .i64 H)), .d (.lst 1 (li .i64 l))]) ∧ s.tm 5 = .ptr 5 0 ∧ s.hp 5 = some (.box [.d (.c (.int .i64 pW)), .d (.c (.int .i64 pH)), .d (.lst 1 (li .i64 q))]) ∧ s.tm 8 = .ptr 8 0 ∧ s.hp 8 = some (.box [.d (.c (.int .i64 0)), .d (.c (.int .i64 0)), .d (.c (.slice none 0 0))]) ∧ s.tm 2 = .d (.c (.int .i64 x)) ∧ s.tm 3 = .d (.c (.int .i64 y)) ∧ s.tm 10 = .ptr 10 0 ∧ s.hp 10 = some (.box [.d (.c (.int .i64 W)), .d (.c (.int .i64 H)), .sl 100 1 0 m]) ∧ s.hp 100 = some (.row 1 (li .i64 (tab g m)))) (fun s => n - (avN (s.tm 11)).toNat) ?_ rfl (by decide) (by decide) ?_ ?_
  · simp -dsimp -implicitDefEqProofs (disch := first | omega | (simp only [List.length_append, List.length_cons, List.length_nil, List.length_take, List.length_drop]; omega)) only [↓aPre, aPost, oneW, allOne, retV, retVA, ↓reduceIte, reduceCtorEq, Nat.reduceAdd, Nat.reduceSub, Nat.reduceMul, Nat.reduceLT, Nat.reduceLeDiff, Nat.reduceEqDiff, Nat.reduceDiv, Nat.reduceMod, Nat.reducePow, Int.reduceAdd, Int.reduceSub, Int.reduceMul, Int.reduceLT, Int.reduceLE, Int.reduceEq, Int.reduceNe, Int.reducePow, Int.reduceToNat, Int.reduceNeg]
  · refine ⟨0, Nat.zero_le _, ?_⟩
    simp -dsimp -implicitDefEqProofs (disch := first | omega | (simp only [List.length_append, List.length_cons, List.length_nil, List.length_take, List.length_drop]; omega)) only [tab, Int.natCast_zero, List.set_cons_succ, List.set_cons_zero, ↓aPre, aPost, oneW, allOne, retV, retVA, ↓reduceIte, reduceCtorEq, Nat.reduceAdd, Nat.reduceSub, Nat.reduceMul, Nat.reduceLT, Nat.reduceLeDiff, Nat.reduceEqDiff, Nat.reduceDiv, Nat.reduceMod, Nat.reducePow, Int.reduceAdd, Int.reduceSub, Int.reduceMul, Int.reduceLT, Int.reduceLE, Int.reduceEq, Int.reduceNe, Int.reducePow, Int.reduceToNat, Int.reduceNeg]
  rintro s ⟨m, hm, hs⟩
  have el := tab_len g m
  by_cases hlt : m < n
  · obtain ⟨r, c, hmrc, hc, _⟩ := grF_div (pasG W l pW q x y pH) W m (by omega)
    have hgv : g m = pasG W l pW q x y pH r c := by rw [hg, hmrc, grF_at _ hc]
    have hrc : m / W = r ∧ m % W = c := by
      rw [hmrc, Nat.add_comm, Nat.add_mul_div_right _ _ (by omega), Nat.add_mul_mod_self_right, Nat.div_eq_of_lt hc, Nat.mod_eq_of_lt hc, Nat.zero_add]
      exact ⟨rfl, rfl⟩
    have hr1 : (m : Int) / (W : Int) = r := by rw [← hrc.1]; simp
    have hc1 : (m : Int) % (W : Int) = c := by rw [← hrc.2]; simp
    have hrH : r < H := by
      have : r * W < H * W := by omega
      exact Nat.lt_of_mul_lt_mul_right this
    by_cases cc : y ≤ r ∧ r < y + pH ∧ x ≤ c ∧ c < x + pW
    · have hpl := place_lt (A := pH) (B := pW) (i := r - y) (j := c - x) (by omega) (by omega)
      obtain ⟨u, hu⟩ : ∃ u : Nat, u = (r - y) * pW := ⟨_, rfl⟩
      have hu2 : ((r : Int) - y) * (pW : Int) = u := by rw [hu, Int.natCast_mul]; congr 1; omega
      rw [pasG, if_pos cc, ← hu] at hgv
      rw [← hu, Nat.mul_comm pH, ← hq] at hpl
      have e1 : ((u : Int) + ((c : Int) - x)).toNat = u + (c - x) := by omega
      simp -dsimp -implicitDefEqProofs (disch := first | omega | (simp only [List.length_append, List.length_cons, List.length_nil, List.length_take, List.length_drop]; omega)) only [hs, hr1, hc1, hu2, e1, el, hln, ↓aPre, aPost, oneW, allOne, retV, retVA, ↓reduceIte, reduceCtorEq, Nat.reduceAdd, Nat.reduceSub, Nat.reduceMul, Nat.reduceLT, Nat.reduceLeDiff, Nat.reduceEqDiff, Nat.reduceDiv, Nat.reduceMod, Nat.reducePow, Int.reduceAdd, Int.reduceSub, Int.reduceMul, Int.reduceLT, Int.reduceLE, Int.reduceEq, Int.reduceNe, Int.reducePow, Int.reduceToNat, Int.reduceNeg]
      refine round_of ⟨m + 1, by omega, ?_⟩ ?_
      · simp -dsimp -implicitDefEqProofs (disch := first | omega | (simp only [List.length_append, List.length_cons, List.length_nil, List.length_take, List.length_drop]; omega)) only [hs, hr1, hc1, hu2, e1, el, tab, ← hgv, hln, ↓aPre, aPost, oneW, allOne, retV, retVA, ↓reduceIte, reduceCtorEq, Nat.reduceAdd, Nat.reduceSub, Nat.reduceMul, Nat.reduceLT, Nat.reduceLeDiff, Nat.reduceEqDiff, Nat.reduceDiv, Nat.reduceMod, Nat.reducePow, Int.reduceAdd, Int.reduceSub, Int.reduceMul, Int.reduceLT, Int.reduceLE, Int.reduceEq, Int.reduceNe, Int.reducePow, Int.reduceToNat, Int.reduceNeg]
      · simp -dsimp -implicitDefEqProofs (disch := first | omega | (simp only [List.length_append, List.length_cons, List.length_nil, List.length_take, List.length_drop]; omega)) only [hs, ↓aPre, aPost, oneW, allOne, retV, retVA, ↓reduceIte, reduceCtorEq, Nat.reduceAdd, Nat.reduceSub, Nat.reduceMul, Nat.reduceLT, Nat.reduceLeDiff, Nat.reduceEqDiff, Nat.reduceDiv, Nat.reduceMod, Nat.reducePow, Int.reduceAdd, Int.reduceSub, Int.reduceMul, Int.reduceLT, Int.reduceLE, Int.reduceEq, Int.reduceNe, Int.reducePow, Int.reduceToNat, Int.reduceNeg]
        omega
    · rw [pasG, if_neg cc, ← hmrc] at hgv
      have c4 : c < x ∨ (¬ c < x ∧ r < y) ∨ (¬ c < x ∧ ¬ r < y ∧ x + pW ≤ c) ∨ (¬ c < x ∧ ¬ r < y ∧ ¬ x + pW ≤ c ∧ y + pH ≤ r) := by omega
      rcases c4 with k1 | ⟨k1, k2⟩ | ⟨k1, k2, k3⟩ | ⟨k1, k2, k3, k4⟩
      all_goals
        simp -dsimp -implicitDefEqProofs (disch := first | omega | (simp only [List.length_append, List.length_cons, List.length_nil, List.length_take, List.length_drop]; omega)) only [hs, hr1, hc1, el, hln, ↓aPre, aPost, oneW, allOne, retV, retVA, ↓reduceIte, reduceCtorEq, Nat.reduceAdd, Nat.reduceSub, Nat.reduceMul, Nat.reduceLT, Nat.reduceLeDiff, Nat.reduceEqDiff, Nat.reduceDiv, Nat.reduceMod, Nat.reducePow, Int.reduceAdd, Int.reduceSub, Int.reduceMul, Int.reduceLT, Int.reduceLE, Int.reduceEq, Int.reduceNe, Int.reducePow, Int.reduceToNat, Int.reduceNeg]
        refine round_of ⟨m + 1, by omega, ?_⟩ ?_
        · simp -dsimp -implicitDefEqProofs (disch := first | omega | (simp only [List.length_append, List.length_cons, List.length_nil, List.length_take, List.length_drop]; omega)) only [hs, hr1, hc1, el, tab, ← hgv, hln, ↓aPre, aPost, oneW, allOne, retV, retVA, ↓reduceIte, reduceCtorEq, Nat.reduceAdd, Nat.reduceSub, Nat.reduceMul, Nat.reduceLT, Nat.reduceLeDiff, Nat.reduceEqDiff, Nat.reduceDiv, Nat.reduceMod, Nat.reducePow, Int.reduceAdd, Int.reduceSub, Int.reduceMul, Int.reduceLT, Int.reduceLE, Int.reduceEq, Int.reduceNe, Int.reducePow, Int.reduceToNat, Int.reduceNeg]
        · simp -dsimp -implicitDefEqProofs (disch := first | omega | (simp only [List.length_append, List.length_cons, List.length_nil, List.length_take, List.length_drop]; omega)) only [hs, ↓aPre, aPost, oneW, allOne, retV, retVA, ↓reduceIte, reduceCtorEq, Nat.reduceAdd, Nat.reduceSub, Nat.reduceMul, Nat.reduceLT, Nat.reduceLeDiff, Nat.reduceEqDiff, Nat.reduceDiv, Nat.reduceMod, Nat.reducePow, Int.reduceAdd, Int.reduceSub, Int.reduceMul, Int.reduceLT, Int.reduceLE, Int.reduceEq, Int.reduceNe, Int.reducePow, Int.reduceToNat, Int.reduceNeg]
          omega
  · obtain rfl : m = n := by omega
    simp -dsimp -implicitDefEqProofs (disch := first | omega | (simp only [List.length_append, List.length_cons, List.length_nil, List.length_take, List.length_drop]; omega)) only [hs, el, hln, ↓aPre, aPost, oneW, allOne, retV, retVA, ↓reduceIte, reduceCtorEq, Nat.reduceAdd, Nat.reduceSub, Nat.reduceMul, Nat.reduceLT, Nat.reduceLeDiff, Nat.reduceEqDiff, Nat.reduceDiv, Nat.reduceMod, Nat.reducePow, Int.reduceAdd, Int.reduceSub, Int.reduceMul, Int.reduceLT, Int.reduceLE, Int.reduceEq, Int.reduceNe, Int.reducePow, Int.reduceToNat, Int.reduceNeg]
    refine post_eq ?_
    rw [pasL, grL, ← hg, ← hn]
theorem lives_giv : Giv Try.prog 10 [] (retV [.c (.bool true)]) := by
  refine Giv.of mixed c10 (Nat.le_of_ble_eq_true rfl) ?_
  simp -dsimp -implicitDefEqProofs (disch := first | omega | (simp only [List.length_append, List.length_cons, List.length_nil, List.length_take, List.length_drop]; omega)) only [a10, ↓aPre, aPost, oneW, allOne, retV, retVA, ↓reduceIte, reduceCtorEq, Nat.reduceAdd, Nat.reduceSub, Nat.reduceMul, Nat.reduceLT, Nat.reduceLeDiff, Nat.reduceEqDiff, Nat.reduceDiv, Nat.reduceMod, Nat.reducePow, Int.reduceAdd, Int.reduceSub, Int.reduceMul, Int.reduceLT, Int.reduceLE, Int.reduceEq, Int.reduceNe, Int.reducePow, Int.reduceToNat, Int.reduceNeg]
  refine call_giv (cut_t 2 2 [1, 2, 3, 4] 1 1 2 2 (by decide) (by decide) (by decide) (by decide) rfl (by decide) (by decide) (by decide) (by decide) (by decide)) ?_
  rw [show grL (cutG 2 2 [1, 2, 3, 4] 1 1) 2 2 = [4, 4, 4, 4] from by decide +kernel]
  simp -dsimp -implicitDefEqProofs (disch := first | omega | (simp only [List.length_append, List.length_cons, List.length_nil, List.length_take, List.length_drop]; omega)) only [gD, ↓aPre, aPost, oneW, allOne, retV, retVA, ↓reduceIte, reduceCtorEq, Nat.reduceAdd, Nat.reduceSub, Nat.reduceMul, Nat.reduceLT, Nat.reduceLeDiff, Nat.reduceEqDiff, Nat.reduceDiv, Nat.reduceMod, Nat.reducePow, Int.reduceAdd, Int.reduceSub, Int.reduceMul, Int.reduceLT, Int.reduceLE, Int.reduceEq, Int.reduceNe, Int.reducePow, Int.reduceToNat, Int.reduceNeg]
  refine call_giv (right_giv 2 2 [1, 2, 3, 4] (by decide)) ?_
  rw [decide_eq_true (show rightP 2 2 [1, 2, 3, 4] by decide)]
  simp -dsimp -implicitDefEqProofs (disch := first | omega | (simp only [List.length_append, List.length_cons, List.length_nil, List.length_take, List.length_drop]; omega)) only [gD, ↓aPre, aPost, oneW, allOne, retV, retVA, ↓reduceIte, reduceCtorEq, Nat.reduceAdd, Nat.reduceSub, Nat.reduceMul, Nat.reduceLT, Nat.reduceLeDiff, Nat.reduceEqDiff, Nat.reduceDiv, Nat.reduceMod, Nat.reducePow, Int.reduceAdd, Int.reduceSub, Int.reduceMul, Int.reduceLT, Int.reduceLE, Int.reduceEq, Int.reduceNe, Int.reducePow, Int.reduceToNat, Int.reduceNeg]
  refine call_giv (same_giv [4, 4, 4, 4] [4, 4, 4, 4] (by decide) (by decide)) ?_
  simp -dsimp -implicitDefEqProofs (disch := first | omega | (simp only [List.length_append, List.length_cons, List.length_nil, List.length_take, List.length_drop]; omega)) only [↓aPre, aPost, oneW, allOne, retV, retVA, ↓reduceIte, reduceCtorEq, Nat.reduceAdd, Nat.reduceSub, Nat.reduceMul, Nat.reduceLT, Nat.reduceLeDiff, Nat.reduceEqDiff, Nat.reduceDiv, Nat.reduceMod, Nat.reducePow, Int.reduceAdd, Int.reduceSub, Int.reduceMul, Int.reduceLT, Int.reduceLE, Int.reduceEq, Int.reduceNe, Int.reducePow, Int.reduceToNat, Int.reduceNeg]
  exact post_eq rfl
end Go.Proofs.Ytbckibmjjkgmnaa
