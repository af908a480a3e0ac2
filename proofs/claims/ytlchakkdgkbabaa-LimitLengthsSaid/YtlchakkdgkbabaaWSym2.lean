/- The same where the second stretch is of one; and where both are longer. No condition but what each says. -/
import Derived.Test.YtlchakkdgkbabaaWSym
set_option linter.unusedSimpArgs false
set_option linter.unusedVariables false
set_option maxRecDepth 8000
set_option maxHeartbeats 8000000
namespace Go.Proofs.Ytlchakkdgkbabaa
open Go.Eng Go.RowKit
theorem sym_r (g : Nat) (hg : CmpF g) (P X S : List Pc) (y : Pc) (a m b N : Nat) (hX : Srt X) (ha : a = P.length) (hm : m = a + X.length) (hx1 : 2 ≤ X.length) (hb : b = m + 1) (hN : N = P.length + X.length + 1 + S.length) (hl : N ≤ 1000000) :
    GivM Try.prog 26 [.sl 2000000 2 0 N, .d (.c (.int .i64 a)), .d (.c (.int .i64 m)), .d (.c (.int .i64 b)), .d (.fn g [])] [(2000000, .row 2 ((P ++ X ++ [y] ++ S).map pcD))] (.tup []) [(2000000, .row 2 ((P ++ mrg X [y] ++ S).map pcD))] := by
  refine GivM.of mixed c26 (Nat.le_of_ble_eq_true rfl) rfl rfl ?_
  have hm0 : ¬ (m : Int) - (a : Int) = 1 := by omega
  have hm1 : (b : Int) - (m : Int) = 1 := by omega
  obtain ⟨L, hL⟩ : ∃ L, L = P ++ X ++ [y] ++ S := ⟨_, rfl⟩
  have hLN : (L.map pcD).length = N := by rw [pcs_len, hL, hN]; simp only [List.length_append, List.length_cons, List.length_nil]
  have gy : (L.map pcD).getD m default = .agg [.c (.int .i64 y.1), .lst 1 (li .i64 y.2)] := get_mid (show L = (P ++ X) ++ y :: S by rw [hL]; simp) (by rw [List.length_append]; omega)
  rw [← hL]
  simp -dsimp -implicitDefEqProofs (disch := first | omega | (simp only [List.length_append, List.length_cons, List.length_nil, List.length_take, List.length_drop]; omega)) only [a26, hm0, hm1, ↓aPre, aPost, oneW, allOne, retV, retVA, simprocAttr]
  refine loop_of (fun s => ∃ (i j : Nat), i ≤ j ∧ j ≤ X.length ∧ (∀ k, k < i → (el X k).1 ≤ y.1) ∧ (∀ k, j ≤ k → k < X.length → y.1 < (el X k).1) ∧ s.tm 14 = .d (.c (.int .i64 (a + i : Nat))) ∧ s.tm 15 = .d (.c (.int .i64 (a + j : Nat))) ∧ s.tm 0 = .sl 2000000 2 0 N ∧ s.tm 2 = .d (.c (.int .i64 m)) ∧ s.tm 4 = .d (.fn g []) ∧ s.hp 2000000 = some (.row 2 (L.map pcD))) (fun s => (avN (s.tm 15)).toNat - (avN (s.tm 14)).toNat) ?_ ?_
  · refine ⟨0, X.length, Nat.zero_le _, Nat.le_refl _, fun k h => absurd h (Nat.not_lt_zero _), fun k h h2 => absurd h2 (by omega), ?_⟩
    simp -dsimp -implicitDefEqProofs (disch := first | omega | (simp only [List.length_append, List.length_cons, List.length_nil, List.length_take, List.length_drop]; omega)) only [hm, Nat.add_zero, ↓aPre, aPost, oneW, allOne, retV, retVA, simprocAttr]
  rintro s ⟨i, j, hij, hjY, h1, h2, hs⟩
  obtain ⟨I, hI⟩ : ∃ I, I = a + i := ⟨_, rfl⟩
  obtain ⟨J, hJ⟩ : ∃ J, J = a + j := ⟨_, rfl⟩
  rw [← hI, ← hJ] at hs
  by_cases hlt : i < j
  · obtain ⟨k, hk⟩ : ∃ k, k = (I + J) / 2 - a := ⟨_, rfl⟩
    have hkb : i ≤ k ∧ k < j := by omega
    have gk := el_D (L := L) (P := P) (Y := X) (S := [y] ++ S) (k := k) (i := (I + J) / 2) (by rw [hL]; simp) (by omega) (by omega)
    have hc := hg y (el X k)
    have hv := half_v I J (by omega)
    obtain ⟨H, hH⟩ : ∃ H, H = (I + J) / 2 := ⟨_, rfl⟩
    rw [← hH] at gk hv
    simp -dsimp -implicitDefEqProofs (disch := first | omega | (simp only [List.length_append, List.length_cons, List.length_nil, List.length_take, List.length_drop]; omega)) only [hs, hv, hLN, gk, gy, ↓aPre, aPost, oneW, allOne, retV, retVA, simprocAttr]
    refine call_giv hc ?_
    by_cases hlt2 : y.1 < (el X k).1
    · have hcm : cmpV y.1 (el X k).1 < 0 := cmpV_lt.2 hlt2
      simp -dsimp -implicitDefEqProofs (disch := first | omega | (simp only [List.length_append, List.length_cons, List.length_nil, List.length_take, List.length_drop]; omega)) only [hs, hcm, ↓aPre, aPost, oneW, allOne, retV, retVA, simprocAttr]
      refine round_of ⟨i, k, by omega, by omega, h1, ?_, ?_⟩ ?_
      · intro u hu hu2
        have := el_le hX (i := k) (j := u) (by omega) (by omega)
        omega
      · have j1 : H = a + k := by omega
        rw [← j1, ← hI]
        simp -dsimp -implicitDefEqProofs (disch := first | omega | (simp only [List.length_append, List.length_cons, List.length_nil, List.length_take, List.length_drop]; omega)) only [hs, ↓aPre, aPost, oneW, allOne, retV, retVA, simprocAttr]
      · simp -dsimp -implicitDefEqProofs (disch := first | omega | (simp only [List.length_append, List.length_cons, List.length_nil, List.length_take, List.length_drop]; omega)) only [hs, ↓aPre, aPost, oneW, allOne, retV, retVA, simprocAttr]
        omega
    · have hcm : ¬ cmpV y.1 (el X k).1 < 0 := fun h => hlt2 (cmpV_lt.1 h)
      simp -dsimp -implicitDefEqProofs (disch := first | omega | (simp only [List.length_append, List.length_cons, List.length_nil, List.length_take, List.length_drop]; omega)) only [hs, hcm, ↓aPre, aPost, oneW, allOne, retV, retVA, simprocAttr]
      refine round_of ⟨k + 1, j, by omega, hjY, ?_, h2, ?_⟩ ?_
      · intro u hu
        have := el_le hX (i := u) (j := k) (by omega) (by omega)
        omega
      · have j1 : (H : Int) + 1 = ((a + (k + 1) : Nat) : Int) := by omega
        obtain ⟨q, hq⟩ : ∃ q, q = a + (k + 1) := ⟨_, rfl⟩
        rw [← hq] at j1 ⊢
        rw [← hJ]
        simp -dsimp -implicitDefEqProofs (disch := first | omega | (simp only [List.length_append, List.length_cons, List.length_nil, List.length_take, List.length_drop]; omega)) only [hs, j1, ↓aPre, aPost, oneW, allOne, retV, retVA, simprocAttr]
      · simp -dsimp -implicitDefEqProofs (disch := first | omega | (simp only [List.length_append, List.length_cons, List.length_nil, List.length_take, List.length_drop]; omega)) only [hs, ↓aPre, aPost, oneW, allOne, retV, retVA, simprocAttr]
        omega
  · obtain rfl : i = j := by omega
    obtain rfl : I = J := by omega
    simp -dsimp -implicitDefEqProofs (disch := first | omega | (simp only [List.length_append, List.length_cons, List.length_nil, List.length_take, List.length_drop]; omega)) only [hs, ↓aPre, aPost, oneW, allOne, retV, retVA, simprocAttr]
    obtain ⟨X1, X2, rfl, hl1⟩ : ∃ X1 X2, X = X1 ++ X2 ∧ X1.length = i := ⟨X.take i, X.drop i, (List.take_append_drop _ _).symm, by rw [List.length_take]; omega⟩
    have hm2 : mrg (X1 ++ X2) [y] = X1 ++ y :: X2 := by
      refine mrg_one_r (fun z hz => ?_) (fun z hz => ?_)
      · rw [show X1 = (X1 ++ X2).take i by rw [List.take_left' hl1]] at hz
        obtain ⟨k, hk, _, rfl⟩ := el_mem_take hz
        exact h1 k hk
      · rw [show X2 = (X1 ++ X2).drop i by rw [List.drop_left' hl1]] at hz
        obtain ⟨k, hk, hk2, rfl⟩ := el_mem_drop hz
        exact h2 k hk hk2
    rw [hm2]
    rw [List.length_append] at hm hN hjY
    refine loop_of (fun s => ∃ (A B : List Pc), X2 = A ++ B ∧ s.tm 17 = .d (.c (.int .i64 (I + A.length : Nat))) ∧ s.tm 14 = .d (.c (.int .i64 I)) ∧ s.tm 0 = .sl 2000000 2 0 N ∧ s.hp 2000000 = some (.row 2 ((P ++ X1 ++ A ++ y :: B ++ S).map pcD))) (fun s => (avN (s.tm 17)).toNat) ?_ ?_
    · refine ⟨X2, [], (List.append_nil _).symm, ?_⟩
      have e1 : P ++ X1 ++ X2 ++ [y] ++ S = L := by rw [hL]; simp
      have e2 : I + X2.length = m := by omega
      simp -dsimp -implicitDefEqProofs (disch := first | omega | (simp only [List.length_append, List.length_cons, List.length_nil, List.length_take, List.length_drop]; omega)) only [hs, e1, e2, ↓aPre, aPost, oneW, allOne, retV, retVA, simprocAttr]
    rintro s ⟨A, B, rfl, hs⟩
    rw [List.length_append] at hm hN hjY
    obtain ⟨K, hK⟩ : ∃ K, K = I + A.length := ⟨_, rfl⟩
    rw [← hK] at hs
    rcases snoc_cases A with rfl | ⟨A', z, rfl⟩
    · rw [List.length_nil, Nat.add_zero] at hK
      subst hK
      simp -dsimp -implicitDefEqProofs (disch := first | omega | (simp only [List.length_append, List.length_cons, List.length_nil, List.length_take, List.length_drop]; omega)) only [hs, ↓aPre, aPost, oneW, allOne, retV, retVA, simprocAttr]
      refine end_of rfl ?_
      have e1 : P ++ X1 ++ y :: B ++ S = P ++ (X1 ++ y :: B) ++ S := by simp
      simp -dsimp -implicitDefEqProofs (disch := first | omega | (simp only [List.length_append, List.length_cons, List.length_nil, List.length_take, List.length_drop]; omega)) only [hs, e1, ↓aPre, aPost, oneW, allOne, retV, retVA, simprocAttr]
    · have hz' : (A' ++ [z]).length = A'.length + 1 := by simp
      rw [hz'] at hK hm hN hjY
      have hsw := sw_mid (L := P ++ X1 ++ (A' ++ [z]) ++ y :: B ++ S) (L' := P ++ X1 ++ A' ++ y :: (z :: B) ++ S) (A := P ++ X1 ++ A') (B := []) (C := B ++ S) (x := z) (y := y) (i := K - 1) (j := K) (by simp) (by rw [List.length_append, List.length_append]; omega) (by rw [List.length_append, List.length_append, List.length_nil]; omega) (by simp)
      have hLN2 : (P ++ X1 ++ (A' ++ [z]) ++ y :: B ++ S).length = N := by rw [hN]; simp only [List.length_append, List.length_cons, List.length_nil]; omega
      obtain ⟨M, hM⟩ : ∃ M, M = P ++ X1 ++ (A' ++ [z]) ++ y :: B ++ S := ⟨_, rfl⟩
      rw [← hM] at hsw hs hLN2
      obtain ⟨w1, w2, w3, w4, w5, L1, L2, w6, w7, w8, w9, w10, w11, w12, w13⟩ := hsw
      have q1 := pcs_len M
      have q2 := pcs_len L1
      have q3 := pcs_len L2
      rw [hLN2] at q1
      rw [w6, hLN2] at q2
      rw [w7, hLN2] at q3
      rw [hLN2] at w2 w3
      have i1 : ((K : Int) - 1).toNat = K - 1 := by omega
      have hgt2 : (K : Int) > (I : Int) := by omega
      simp -dsimp -implicitDefEqProofs (disch := first | omega | (simp only [List.length_append, List.length_cons, List.length_nil, List.length_take, List.length_drop]; omega)) only [hs, hgt2, q1, q2, q3, i1, w4, w5, w8, w9, w10, w11, w12, w13, ↓aPre, aPost, oneW, allOne, retV, retVA, simprocAttr]
      refine round_of ⟨A', z :: B, by simp, ?_⟩ ?_
      · have j1 : (K : Int) - 1 = ((I + A'.length : Nat) : Int) := by omega
        obtain ⟨q, hq⟩ : ∃ q, q = I + A'.length := ⟨_, rfl⟩
        rw [← hq] at j1 ⊢
        simp -dsimp -implicitDefEqProofs (disch := first | omega | (simp only [List.length_append, List.length_cons, List.length_nil, List.length_take, List.length_drop]; omega)) only [hs, j1, ↓aPre, aPost, oneW, allOne, retV, retVA, simprocAttr]
      · simp -dsimp -implicitDefEqProofs (disch := first | omega | (simp only [List.length_append, List.length_cons, List.length_nil, List.length_take, List.length_drop]; omega)) only [hs, ↓aPre, aPost, oneW, allOne, retV, retVA, simprocAttr]
        omega
/-- where the two are cut -/
theorem sym_law {X Y : List Pc} (hX : Srt X) (hY : Srt Y) {h s s0 r0 : Nat} (h1 : s0 ≤ s) (h2 : s ≤ r0) (h3 : r0 ≤ h) (h4 : r0 ≤ X.length) (h5 : h - s0 ≤ Y.length)
    (low : ∀ c, s0 ≤ c → c < s → (el X c).1 ≤ (el Y (h - 1 - c)).1) (high : ∀ c, s ≤ c → c < r0 → (el Y (h - 1 - c)).1 < (el X c).1) (e1 : s0 = 0 ∨ h - s0 = Y.length) (e2 : r0 = h ∨ r0 = X.length) :
    mrg X Y = mrg (X.take s) (Y.take (h - s)) ++ mrg (X.drop s) (Y.drop (h - s)) := by
  have := mrg_split (X1 := X.take s) (Y1 := Y.take (h - s)) (X2 := X.drop s) (Y2 := Y.drop (h - s)) (fun x hx y hy => ?_) (fun y hy x hx => ?_)
  · rw [List.take_append_drop, List.take_append_drop] at this
    exact this
  · obtain ⟨i, i1, i2, rfl⟩ := el_mem_take hx
    obtain ⟨j, j1, j2, rfl⟩ := el_mem_drop hy
    have hs : s0 < s := by
      rcases e1 with e | e <;> omega
    have q1 := low (s - 1) (by omega) (by omega)
    have q2 := el_le hX (i := i) (j := s - 1) (by omega) (by omega)
    have q3 := el_le hY (i := h - 1 - (s - 1)) (j := j) (by omega) (by omega)
    omega
  · obtain ⟨i, i1, i2, rfl⟩ := el_mem_take hy
    obtain ⟨j, j1, j2, rfl⟩ := el_mem_drop hx
    have hs : s < r0 := by
      rcases e2 with e | e <;> omega
    have q1 := high s (by omega) (by omega)
    have q2 := el_le hY (i := i) (j := h - 1 - s) (by omega) (by omega)
    have q3 := el_le hX (i := s) (j := j) (by omega) (by omega)
    omega
end Go.Proofs.Ytlchakkdgkbabaa
