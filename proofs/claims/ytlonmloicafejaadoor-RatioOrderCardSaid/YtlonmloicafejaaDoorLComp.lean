/- The laws RatioCompares and RatioOrder. No condition but what each says. -/
import Derived.Test.YtlonmloicafejaaDoorLLaws
set_option linter.unusedSimpArgs false
set_option linter.unusedVariables false
set_option maxRecDepth 8000
set_option maxHeartbeats 4000000
namespace Go.Proofs.YtlonmloicafejaaDoor
open Go.Eng Go.RowKit
theorem cmp_z {n d m e : Nat} (h : d = 0 ∨ e = 0) : cmpS n d m e = (0, 1) := by unfold cmpS; rw [if_pos h]
theorem cmp_lt {n d m e : Nat} (hd : d ≠ 0) (he : e ≠ 0) (h : n * e < m * d) : cmpS n d m e = (-1, 0) := by unfold cmpS; rw [if_neg (fun c => c.elim hd he), if_pos h]
theorem cmp_gt {n d m e : Nat} (hd : d ≠ 0) (he : e ≠ 0) (h : m * d < n * e) : cmpS n d m e = (1, 0) := by unfold cmpS; rw [if_neg (fun c => c.elim hd he), if_neg (by omega), if_pos h]
theorem cmp_eq {n d m e : Nat} (hd : d ≠ 0) (he : e ≠ 0) (h : n * e = m * d) : cmpS n d m e = (0, 0) := by unfold cmpS; rw [if_neg (fun c => c.elim hd he), if_neg (by omega), if_neg (by omega)]
theorem ratioCompares_giv (y0 : (Int) × (Int) × (Int) × (Int)) (h0 : ((0 ≤ y0.1 ∧ y0.1 ≤ 4294967295) ∧ (0 ≤ y0.2.1 ∧ y0.2.1 ≤ 4294967295) ∧ (0 ≤ y0.2.2.1 ∧ y0.2.2.1 ≤ 4294967295) ∧ (0 ≤ y0.2.2.2 ∧ y0.2.2.2 ≤ 4294967295))) : Giv Tryd.prog 5 [.agg [.c (.int .u32 y0.1), .c (.int .u32 y0.2.1), .c (.int .u32 y0.2.2.1), .c (.int .u32 y0.2.2.2)]] (.d (.c (.bool true))) := by
  obtain ⟨a, b, c, d⟩ := y0
  obtain ⟨ha, hb, hc, hd⟩ := h0
  dsimp only at ha hb hc hd ⊢
  obtain ⟨n, rfl⟩ := Int.eq_ofNat_of_zero_le ha.1
  obtain ⟨d, rfl⟩ := Int.eq_ofNat_of_zero_le hb.1
  obtain ⟨m, rfl⟩ := Int.eq_ofNat_of_zero_le hc.1
  obtain ⟨e, rfl⟩ := Int.eq_ofNat_of_zero_le hd.1
  have hn1 : n < 4294967296 := by omega
  have hd1 : d < 4294967296 := by omega
  have hm1 : m < 4294967296 := by omega
  have he1 : e < 4294967296 := by omega
  clear ha hb hc hd
  have g1 := compare_giv n d m e hn1 hd1 hm1 he1
  have g2 := compare_giv m e n d hm1 he1 hn1 hd1
  refine Giv.of (out := [.c (.bool true)]) mixed c5 (Nat.le_of_ble_eq_true rfl) ?_
  by_cases hz : d = 0 ∨ e = 0
  · rw [cmp_z hz] at g1
    rw [cmp_z hz.symm] at g2
    simp -dsimp -implicitDefEqProofs (disch := first | omega | (simp only [List.length_append, List.length_cons, List.length_nil, List.length_take, List.length_drop]; omega)) only [a5, ↓aPre, aPost, oneW, allOne, retV, retVA, simprocAttr]
    refine call_giv lives_giv ?_
    simp -dsimp -implicitDefEqProofs (disch := first | omega | (simp only [List.length_append, List.length_cons, List.length_nil, List.length_take, List.length_drop]; omega)) only [↓aPre, aPost, oneW, allOne, retV, retVA, simprocAttr]
    refine ⟨?_, ?_⟩
    all_goals
      refine call_giv g1 ?_
      simp -dsimp -implicitDefEqProofs (disch := first | omega | (simp only [List.length_append, List.length_cons, List.length_nil, List.length_take, List.length_drop]; omega)) only [↓aPre, aPost, oneW, allOne, retV, retVA, simprocAttr]
      refine call_giv g2 ?_
      by_cases hd0 : (d : Int) = 0
      · simp -dsimp -implicitDefEqProofs (disch := first | omega | (simp only [List.length_append, List.length_cons, List.length_nil, List.length_take, List.length_drop]; omega)) only [hd0, ↓aPre, aPost, oneW, allOne, retV, retVA, simprocAttr]
        exact post_eq rfl
      · have he0 : (e : Int) = 0 := by omega
        simp -dsimp -implicitDefEqProofs (disch := first | omega | (simp only [List.length_append, List.length_cons, List.length_nil, List.length_take, List.length_drop]; omega)) only [hd0, he0, ↓aPre, aPost, oneW, allOne, retV, retVA, simprocAttr]
        exact post_eq rfl
  have hd0 : d ≠ 0 := fun c => hz (.inl c)
  have he0 : e ≠ 0 := fun c => hz (.inr c)
  have hdI : ¬ (d : Int) = 0 := by omega
  have heI : ¬ (e : Int) = 0 := by omega
  have r1 := reduce_giv n d hn1 hd1
  have r2 := reduce_giv m e hm1 he1
  have l1 := red_le n d
  have l2 := red_le m e
  have g3 := compare_giv (redS n d).1 (redS n d).2 (redS m e).1 (redS m e).2 (by omega) (by omega) (by omega) (by omega)
  obtain ⟨k, hk, hk1, hk2⟩ := red_cmp (n := n) (m := m) (show 0 < d by omega) (show 0 < e by omega)
  have hy := red_d (n := n) (show 0 < d by omega)
  have hw := red_d (n := m) (show 0 < e by omega)
  have heq := red_eq (n := n) (m := m) (show 0 < d by omega) (show 0 < e by omega)
  have b1 := mul_32 hn1 he1
  have b2 := mul_32 hm1 hd1
  have e1 : (n : Int) * (e : Int) = ((n * e : Nat) : Int) := (Int.natCast_mul n e).symm
  have e2 : (m : Int) * (d : Int) = ((m * d : Nat) : Int) := (Int.natCast_mul m d).symm
  obtain ⟨⟨x, y⟩, hxy⟩ : ∃ p, p = redS n d := ⟨_, rfl⟩
  obtain ⟨⟨u, w⟩, huw⟩ : ∃ p, p = redS m e := ⟨_, rfl⟩
  rw [← hxy] at r1 g3 hk1 hk2 hy heq l1
  rw [← huw] at r2 g3 hk1 hk2 hw heq l2
  dsimp only at r1 r2 g3 hk1 hk2 hy hw l1 l2
  obtain ⟨X, hX⟩ : ∃ X, X = x * w := ⟨_, rfl⟩
  obtain ⟨Y, hY⟩ : ∃ Y, Y = u * y := ⟨_, rfl⟩
  rw [← hX] at hk1
  rw [← hY] at hk2
  have tri : (n * e < m * d ∧ X < Y) ∨ (m * d < n * e ∧ Y < X) ∨ (n * e = m * d ∧ X = Y) := by
    rcases Nat.lt_trichotomy X Y with h | h | h
    · exact .inl ⟨by rw [hk1, hk2]; exact Nat.mul_lt_mul_of_pos_left h hk, h⟩
    · exact .inr (.inr ⟨by rw [hk1, hk2, h], h⟩)
    · exact .inr (.inl ⟨by rw [hk1, hk2]; exact Nat.mul_lt_mul_of_pos_left h hk, h⟩)
  have nxt : ¬ n * e = m * d → (¬ (x : Int) = u) ∨ ((x : Int) = u ∧ ¬ (y : Int) = w) := fun h => by
    by_cases c : (x : Int) = u
    · refine .inr ⟨c, fun c2 => h (heq.2 ?_)⟩
      rw [show x = u by omega, show y = w by omega]
    · exact .inl c
  obtain ⟨p, hp⟩ : ∃ p, p = n * e := ⟨_, rfl⟩
  obtain ⟨q, hq⟩ : ∃ q, q = m * d := ⟨_, rfl⟩
  rw [← hp] at tri nxt b1 e1 heq
  rw [← hq] at tri nxt b2 e2 heq
  have n1 : (-(1 : Int)) = -1 := rfl
  rcases tri with ⟨t1, t2⟩ | ⟨t1, t2⟩ | ⟨t1, t2⟩
  · rw [cmp_lt hd0 he0 (by omega)] at g1
    rw [cmp_gt he0 hd0 (by omega)] at g2
    rw [cmp_lt (by omega) (by omega) (by omega)] at g3
    dsimp only at g1 g2 g3
    simp -dsimp -implicitDefEqProofs (disch := first | omega | (simp only [List.length_append, List.length_cons, List.length_nil, List.length_take, List.length_drop]; omega)) only [a5, ↓aPre, aPost, oneW, allOne, retV, retVA, simprocAttr]
    refine call_giv lives_giv ?_
    simp -dsimp -implicitDefEqProofs (disch := first | omega | (simp only [List.length_append, List.length_cons, List.length_nil, List.length_take, List.length_drop]; omega)) only [↓aPre, aPost, oneW, allOne, retV, retVA, simprocAttr]
    refine ⟨?_, ?_⟩
    all_goals
      refine call_giv g1 ?_
      simp -dsimp -implicitDefEqProofs (disch := first | omega | (simp only [List.length_append, List.length_cons, List.length_nil, List.length_take, List.length_drop]; omega)) only [↓aPre, aPost, oneW, allOne, retV, retVA, simprocAttr]
      refine call_giv g2 ?_
      simp -dsimp -implicitDefEqProofs (disch := first | omega | (simp only [List.length_append, List.length_cons, List.length_nil, List.length_take, List.length_drop]; omega)) only [hdI, heI, ↓aPre, aPost, oneW, allOne, retV, retVA, simprocAttr]
      refine call_giv r1 ?_
      simp -dsimp -implicitDefEqProofs (disch := first | omega | (simp only [List.length_append, List.length_cons, List.length_nil, List.length_take, List.length_drop]; omega)) only [↓aPre, aPost, oneW, allOne, retV, retVA, simprocAttr]
      refine call_giv r2 ?_
      simp -dsimp -implicitDefEqProofs (disch := first | omega | (simp only [List.length_append, List.length_cons, List.length_nil, List.length_take, List.length_drop]; omega)) only [↓aPre, aPost, oneW, allOne, retV, retVA, simprocAttr]
      refine call_giv g3 ?_
      simp -dsimp -implicitDefEqProofs (disch := first | omega | (simp only [List.length_append, List.length_cons, List.length_nil, List.length_take, List.length_drop]; omega)) only [e1, e2, beq_self_eq_true, Bool.and_true, Bool.not_true, Bool.false_eq_true, if_false, ↓aPre, aPost, oneW, allOne, retV, retVA, simprocAttr]
      refine call_giv r1 ?_
      simp -dsimp -implicitDefEqProofs (disch := first | omega | (simp only [List.length_append, List.length_cons, List.length_nil, List.length_take, List.length_drop]; omega)) only [beq_self_eq_true, Bool.and_true, Bool.not_true, Bool.false_eq_true, if_false, ↓aPre, aPost, oneW, allOne, retV, retVA, simprocAttr]
      refine call_giv r2 ?_
      rcases nxt (by omega) with c | ⟨c, c'⟩
      · simp -dsimp -implicitDefEqProofs (disch := first | omega | (simp only [List.length_append, List.length_cons, List.length_nil, List.length_take, List.length_drop]; omega)) only [beq_self_eq_true, Bool.and_true, Bool.not_true, Bool.false_eq_true, if_false, ibeq_f c, Bool.false_and, ↓aPre, aPost, oneW, allOne, retV, retVA, simprocAttr]
        exact post_eq rfl
      · simp -dsimp -implicitDefEqProofs (disch := first | omega | (simp only [List.length_append, List.length_cons, List.length_nil, List.length_take, List.length_drop]; omega)) only [beq_self_eq_true, Bool.and_true, Bool.not_true, Bool.false_eq_true, if_false, ibeq_t c, ibeq_f c', Bool.true_and, Bool.false_and, ↓aPre, aPost, oneW, allOne, retV, retVA, simprocAttr]
        exact post_eq rfl
  · rw [cmp_gt hd0 he0 (by omega)] at g1
    rw [cmp_lt he0 hd0 (by omega)] at g2
    rw [cmp_gt (by omega) (by omega) (by omega)] at g3
    dsimp only at g1 g2 g3
    simp -dsimp -implicitDefEqProofs (disch := first | omega | (simp only [List.length_append, List.length_cons, List.length_nil, List.length_take, List.length_drop]; omega)) only [a5, ↓aPre, aPost, oneW, allOne, retV, retVA, simprocAttr]
    refine call_giv lives_giv ?_
    simp -dsimp -implicitDefEqProofs (disch := first | omega | (simp only [List.length_append, List.length_cons, List.length_nil, List.length_take, List.length_drop]; omega)) only [↓aPre, aPost, oneW, allOne, retV, retVA, simprocAttr]
    refine ⟨?_, ?_⟩
    all_goals
      refine call_giv g1 ?_
      simp -dsimp -implicitDefEqProofs (disch := first | omega | (simp only [List.length_append, List.length_cons, List.length_nil, List.length_take, List.length_drop]; omega)) only [↓aPre, aPost, oneW, allOne, retV, retVA, simprocAttr]
      refine call_giv g2 ?_
      simp -dsimp -implicitDefEqProofs (disch := first | omega | (simp only [List.length_append, List.length_cons, List.length_nil, List.length_take, List.length_drop]; omega)) only [hdI, heI, ↓aPre, aPost, oneW, allOne, retV, retVA, simprocAttr]
      refine call_giv r1 ?_
      simp -dsimp -implicitDefEqProofs (disch := first | omega | (simp only [List.length_append, List.length_cons, List.length_nil, List.length_take, List.length_drop]; omega)) only [↓aPre, aPost, oneW, allOne, retV, retVA, simprocAttr]
      refine call_giv r2 ?_
      simp -dsimp -implicitDefEqProofs (disch := first | omega | (simp only [List.length_append, List.length_cons, List.length_nil, List.length_take, List.length_drop]; omega)) only [↓aPre, aPost, oneW, allOne, retV, retVA, simprocAttr]
      refine call_giv g3 ?_
      simp -dsimp -implicitDefEqProofs (disch := first | omega | (simp only [List.length_append, List.length_cons, List.length_nil, List.length_take, List.length_drop]; omega)) only [e1, e2, beq_self_eq_true, Bool.and_true, Bool.not_true, Bool.false_eq_true, if_false, ↓aPre, aPost, oneW, allOne, retV, retVA, simprocAttr]
      refine call_giv r1 ?_
      simp -dsimp -implicitDefEqProofs (disch := first | omega | (simp only [List.length_append, List.length_cons, List.length_nil, List.length_take, List.length_drop]; omega)) only [beq_self_eq_true, Bool.and_true, Bool.not_true, Bool.false_eq_true, if_false, ↓aPre, aPost, oneW, allOne, retV, retVA, simprocAttr]
      refine call_giv r2 ?_
      rcases nxt (by omega) with c | ⟨c, c'⟩
      · simp -dsimp -implicitDefEqProofs (disch := first | omega | (simp only [List.length_append, List.length_cons, List.length_nil, List.length_take, List.length_drop]; omega)) only [beq_self_eq_true, Bool.and_true, Bool.not_true, Bool.false_eq_true, if_false, ibeq_f c, Bool.false_and, ↓aPre, aPost, oneW, allOne, retV, retVA, simprocAttr]
        exact post_eq rfl
      · simp -dsimp -implicitDefEqProofs (disch := first | omega | (simp only [List.length_append, List.length_cons, List.length_nil, List.length_take, List.length_drop]; omega)) only [beq_self_eq_true, Bool.and_true, Bool.not_true, Bool.false_eq_true, if_false, ibeq_t c, ibeq_f c', Bool.true_and, Bool.false_and, ↓aPre, aPost, oneW, allOne, retV, retVA, simprocAttr]
        exact post_eq rfl
  · rw [cmp_eq hd0 he0 (by omega)] at g1
    rw [cmp_eq he0 hd0 (by omega)] at g2
    rw [cmp_eq (by omega) (by omega) (by omega)] at g3
    dsimp only at g1 g2 g3
    obtain ⟨hxu, hyw⟩ : (x : Int) = u ∧ (y : Int) = w := by
      have := heq.1 t1
      simp only [Prod.mk.injEq] at this
      omega
    simp -dsimp -implicitDefEqProofs (disch := first | omega | (simp only [List.length_append, List.length_cons, List.length_nil, List.length_take, List.length_drop]; omega)) only [a5, ↓aPre, aPost, oneW, allOne, retV, retVA, simprocAttr]
    refine call_giv lives_giv ?_
    simp -dsimp -implicitDefEqProofs (disch := first | omega | (simp only [List.length_append, List.length_cons, List.length_nil, List.length_take, List.length_drop]; omega)) only [↓aPre, aPost, oneW, allOne, retV, retVA, simprocAttr]
    refine ⟨?_, ?_⟩
    all_goals
      refine call_giv g1 ?_
      simp -dsimp -implicitDefEqProofs (disch := first | omega | (simp only [List.length_append, List.length_cons, List.length_nil, List.length_take, List.length_drop]; omega)) only [↓aPre, aPost, oneW, allOne, retV, retVA, simprocAttr]
      refine call_giv g2 ?_
      simp -dsimp -implicitDefEqProofs (disch := first | omega | (simp only [List.length_append, List.length_cons, List.length_nil, List.length_take, List.length_drop]; omega)) only [hdI, heI, ↓aPre, aPost, oneW, allOne, retV, retVA, simprocAttr]
      refine call_giv r1 ?_
      simp -dsimp -implicitDefEqProofs (disch := first | omega | (simp only [List.length_append, List.length_cons, List.length_nil, List.length_take, List.length_drop]; omega)) only [↓aPre, aPost, oneW, allOne, retV, retVA, simprocAttr]
      refine call_giv r2 ?_
      simp -dsimp -implicitDefEqProofs (disch := first | omega | (simp only [List.length_append, List.length_cons, List.length_nil, List.length_take, List.length_drop]; omega)) only [↓aPre, aPost, oneW, allOne, retV, retVA, simprocAttr]
      refine call_giv g3 ?_
      simp -dsimp -implicitDefEqProofs (disch := first | omega | (simp only [List.length_append, List.length_cons, List.length_nil, List.length_take, List.length_drop]; omega)) only [e1, e2, beq_self_eq_true, Bool.and_true, Bool.not_true, Bool.false_eq_true, if_false, ↓aPre, aPost, oneW, allOne, retV, retVA, simprocAttr]
      refine call_giv r1 ?_
      simp -dsimp -implicitDefEqProofs (disch := first | omega | (simp only [List.length_append, List.length_cons, List.length_nil, List.length_take, List.length_drop]; omega)) only [beq_self_eq_true, Bool.and_true, Bool.not_true, Bool.false_eq_true, if_false, ↓aPre, aPost, oneW, allOne, retV, retVA, simprocAttr]
      refine call_giv r2 ?_
      simp -dsimp -implicitDefEqProofs (disch := first | omega | (simp only [List.length_append, List.length_cons, List.length_nil, List.length_take, List.length_drop]; omega)) only [beq_self_eq_true, Bool.and_true, Bool.not_true, Bool.false_eq_true, if_false, ibeq_t hxu, ibeq_t hyw, ↓aPre, aPost, oneW, allOne, retV, retVA, simprocAttr]
      exact post_eq rfl
end Go.Proofs.YtlonmloicafejaaDoor
