/- Two sorted stretches beside each other become one. No condition but what each says. -/
import Derived.Test.YtlchakkdgkbabaaWIns
set_option linter.unusedSimpArgs false
set_option linter.unusedVariables false
set_option maxRecDepth 8000
set_option maxHeartbeats 8000000
namespace Go.Proofs.Ytlchakkdgkbabaa
open Go.Eng Go.RowKit
def el (l : List Pc) (i : Nat) : Pc := l.getD i (0, [])
theorem el_D {L P Y S : List Pc} {k i : Nat} (hL : L = P ++ Y ++ S) (hi : i = P.length + k) (hk : k < Y.length) : (L.map pcD).getD i default = .agg [.c (.int .i64 (el Y k).1), .lst 1 (li .i64 (el Y k).2)] := by
  subst hL hi
  have e : (P ++ Y ++ S)[P.length + k]? = some Y[k] := by
    rw [List.append_assoc, List.getElem?_append_right (Nat.le_add_right _ _), Nat.add_sub_cancel_left, List.getElem?_append_left hk, List.getElem?_eq_getElem hk]
  simp only [List.getD, List.getElem?_map, e, Option.map_some, Option.getD_some, pcD, el, List.getElem?_eq_getElem hk]
theorem el_mem_take {l : List Pc} {k : Nat} {z : Pc} (h : z ∈ l.take k) : ∃ i, i < k ∧ i < l.length ∧ el l i = z := by
  obtain ⟨i, hi, he⟩ := List.getElem_of_mem h
  rw [List.length_take] at hi
  refine ⟨i, by omega, by omega, ?_⟩
  rw [List.getElem_take] at he
  rw [el, List.getD_eq_getElem?_getD, List.getElem?_eq_getElem (by omega), Option.getD_some, he]
theorem el_mem_drop {l : List Pc} {k : Nat} {z : Pc} (h : z ∈ l.drop k) : ∃ i, k ≤ i ∧ i < l.length ∧ el l i = z := by
  obtain ⟨i, hi, he⟩ := List.getElem_of_mem h
  rw [List.length_drop] at hi
  refine ⟨k + i, by omega, by omega, ?_⟩
  rw [List.getElem_drop] at he
  rw [el, List.getD_eq_getElem?_getD, List.getElem?_eq_getElem (by omega), Option.getD_some, he]
theorem el_le {l : List Pc} (hs : Srt l) {i j : Nat} (hij : i ≤ j) (hj : j < l.length) : (el l i).1 ≤ (el l j).1 := wt_le hs hij hj
theorem half_v (I J : Nat) (h : I + J ≤ 4000000) : IntKind.i64.wrap (((I : Int) + (J : Int)).fdiv (2 ^ min 1 IntKind.u64.bits)) = (((I + J) / 2 : Nat) : Int) := by
  have e : ((I : Int) + (J : Int)).fdiv (2 ^ min 1 IntKind.u64.bits) = (((I + J) / 2 : Nat) : Int) := by
    rw [show min 1 IntKind.u64.bits = 1 from rfl, show ((2 : Int) ^ 1) = 2 from rfl, Int.fdiv_eq_ediv_of_nonneg _ (by omega)]
    omega
  rw [e]
  exact wrap_in64 (by omega)
theorem sym_1 (g : Nat) (hg : CmpF g) (P Y S : List Pc) (x : Pc) (a m b N : Nat) (hY : Srt Y) (ha : a = P.length) (hm : m = a + 1) (hb : b = m + Y.length) (hN : N = P.length + 1 + Y.length + S.length) (hl : N ≤ 1000000) :
    GivM Try.prog 26 [.sl 2000000 2 0 N, .d (.c (.int .i64 a)), .d (.c (.int .i64 m)), .d (.c (.int .i64 b)), .d (.fn g [])] [(2000000, .row 2 ((P ++ [x] ++ Y ++ S).map pcD))] (.tup []) [(2000000, .row 2 ((P ++ mrg [x] Y ++ S).map pcD))] := by
  refine GivM.of mixed c26 (Nat.le_of_ble_eq_true rfl) rfl rfl ?_
  have hm1 : (m : Int) - (a : Int) = 1 := by omega
  obtain ⟨L, hL⟩ : ∃ L, L = P ++ [x] ++ Y ++ S := ⟨_, rfl⟩
  have hLN : (L.map pcD).length = N := by rw [pcs_len, hL, hN]; simp only [List.length_append, List.length_cons, List.length_nil]
  have gx : (L.map pcD).getD a default = .agg [.c (.int .i64 x.1), .lst 1 (li .i64 x.2)] := get_mid (show L = P ++ x :: (Y ++ S) by rw [hL]; simp) ha
  rw [← hL]
  simp -dsimp -implicitDefEqProofs (disch := first | omega | (simp only [List.length_append, List.length_cons, List.length_nil, List.length_take, List.length_drop]; omega)) only [a26, hm1, ↓aPre, aPost, oneW, allOne, retV, retVA, simprocAttr]
  refine loop_of (fun s => ∃ (i j : Nat), i ≤ j ∧ j ≤ Y.length ∧ (∀ k, k < i → (el Y k).1 < x.1) ∧ (∀ k, j ≤ k → k < Y.length → x.1 ≤ (el Y k).1) ∧ s.tm 10 = .d (.c (.int .i64 (m + i : Nat))) ∧ s.tm 11 = .d (.c (.int .i64 (m + j : Nat))) ∧ s.tm 0 = .sl 2000000 2 0 N ∧ s.tm 1 = .d (.c (.int .i64 a)) ∧ s.tm 4 = .d (.fn g []) ∧ s.hp 2000000 = some (.row 2 (L.map pcD))) (fun s => (avN (s.tm 11)).toNat - (avN (s.tm 10)).toNat) ?_ ?_
  · refine ⟨0, Y.length, Nat.zero_le _, Nat.le_refl _, fun k h => absurd h (Nat.not_lt_zero _), fun k h h2 => absurd h2 (by omega), ?_⟩
    simp -dsimp -implicitDefEqProofs (disch := first | omega | (simp only [List.length_append, List.length_cons, List.length_nil, List.length_take, List.length_drop]; omega)) only [hb, Nat.add_zero, ↓aPre, aPost, oneW, allOne, retV, retVA, simprocAttr]
  rintro s ⟨i, j, hij, hjY, h1, h2, hs⟩
  obtain ⟨I, hI⟩ : ∃ I, I = m + i := ⟨_, rfl⟩
  obtain ⟨J, hJ⟩ : ∃ J, J = m + j := ⟨_, rfl⟩
  rw [← hI, ← hJ] at hs
  by_cases hlt : i < j
  · obtain ⟨k, hk⟩ : ∃ k, k = (I + J) / 2 - m := ⟨_, rfl⟩
    have hkb : i ≤ k ∧ k < j := by omega
    have gk := el_D (L := L) (P := P ++ [x]) (Y := Y) (S := S) (k := k) (i := (I + J) / 2) hL (by rw [List.length_append, List.length_cons, List.length_nil]; omega) (by omega)
    have hc := hg (el Y k) x
    have hv := half_v I J (by omega)
    obtain ⟨H, hH⟩ : ∃ H, H = (I + J) / 2 := ⟨_, rfl⟩
    rw [← hH] at gk hv
    simp -dsimp -implicitDefEqProofs (disch := first | omega | (simp only [List.length_append, List.length_cons, List.length_nil, List.length_take, List.length_drop]; omega)) only [hs, hv, hLN, gk, gx, ↓aPre, aPost, oneW, allOne, retV, retVA, simprocAttr]
    refine call_giv hc ?_
    by_cases hlt2 : (el Y k).1 < x.1
    · have hcm : cmpV (el Y k).1 x.1 < 0 := cmpV_lt.2 hlt2
      simp -dsimp -implicitDefEqProofs (disch := first | omega | (simp only [List.length_append, List.length_cons, List.length_nil, List.length_take, List.length_drop]; omega)) only [hs, hcm, ↓aPre, aPost, oneW, allOne, retV, retVA, simprocAttr]
      refine round_of ⟨k + 1, j, by omega, hjY, ?_, h2, ?_⟩ ?_
      · intro u hu
        have := el_le hY (i := u) (j := k) (by omega) (by omega)
        omega
      · have j1 : (H : Int) + 1 = ((m + (k + 1) : Nat) : Int) := by omega
        obtain ⟨q, hq⟩ : ∃ q, q = m + (k + 1) := ⟨_, rfl⟩
        rw [← hq] at j1 ⊢
        rw [← hJ]
        simp -dsimp -implicitDefEqProofs (disch := first | omega | (simp only [List.length_append, List.length_cons, List.length_nil, List.length_take, List.length_drop]; omega)) only [hs, j1, ↓aPre, aPost, oneW, allOne, retV, retVA, simprocAttr]
      · simp -dsimp -implicitDefEqProofs (disch := first | omega | (simp only [List.length_append, List.length_cons, List.length_nil, List.length_take, List.length_drop]; omega)) only [hs, ↓aPre, aPost, oneW, allOne, retV, retVA, simprocAttr]
        omega
    · have hcm : ¬ cmpV (el Y k).1 x.1 < 0 := fun h => hlt2 (cmpV_lt.1 h)
      simp -dsimp -implicitDefEqProofs (disch := first | omega | (simp only [List.length_append, List.length_cons, List.length_nil, List.length_take, List.length_drop]; omega)) only [hs, hcm, ↓aPre, aPost, oneW, allOne, retV, retVA, simprocAttr]
      refine round_of ⟨i, k, by omega, by omega, h1, ?_, ?_⟩ ?_
      · intro u hu hu2
        have := el_le hY (i := k) (j := u) (by omega) (by omega)
        omega
      · have j1 : H = m + k := by omega
        rw [← j1, ← hI]
        simp -dsimp -implicitDefEqProofs (disch := first | omega | (simp only [List.length_append, List.length_cons, List.length_nil, List.length_take, List.length_drop]; omega)) only [hs, ↓aPre, aPost, oneW, allOne, retV, retVA, simprocAttr]
      · simp -dsimp -implicitDefEqProofs (disch := first | omega | (simp only [List.length_append, List.length_cons, List.length_nil, List.length_take, List.length_drop]; omega)) only [hs, ↓aPre, aPost, oneW, allOne, retV, retVA, simprocAttr]
        omega
  · obtain rfl : i = j := by omega
    obtain rfl : I = J := by omega
    simp -dsimp -implicitDefEqProofs (disch := first | omega | (simp only [List.length_append, List.length_cons, List.length_nil, List.length_take, List.length_drop]; omega)) only [hs, ↓aPre, aPost, oneW, allOne, retV, retVA, simprocAttr]
    obtain ⟨Y1, Y2, rfl, hl1⟩ : ∃ Y1 Y2, Y = Y1 ++ Y2 ∧ Y1.length = i := ⟨Y.take i, Y.drop i, (List.take_append_drop _ _).symm, by rw [List.length_take]; omega⟩
    have hm2 : mrg [x] (Y1 ++ Y2) = Y1 ++ x :: Y2 := by
      refine mrg_one_l (fun z hz => ?_) (fun z hz => ?_)
      · rw [show Y1 = (Y1 ++ Y2).take i by rw [List.take_left' hl1]] at hz
        obtain ⟨k, hk, _, rfl⟩ := el_mem_take hz
        exact h1 k hk
      · rw [show Y2 = (Y1 ++ Y2).drop i by rw [List.drop_left' hl1]] at hz
        obtain ⟨k, hk, hk2, rfl⟩ := el_mem_drop hz
        exact h2 k hk hk2
    rw [hm2]
    rw [List.length_append] at hb hN hjY
    refine loop_of (fun s => ∃ (A B : List Pc), Y1 = A ++ B ∧ s.tm 13 = .d (.c (.int .i64 (a + A.length : Nat))) ∧ s.tm 10 = .d (.c (.int .i64 I)) ∧ s.tm 0 = .sl 2000000 2 0 N ∧ s.hp 2000000 = some (.row 2 ((P ++ A ++ x :: (B ++ Y2) ++ S).map pcD))) (fun s => I - (avN (s.tm 13)).toNat) ?_ ?_
    · refine ⟨[], Y1, rfl, ?_⟩
      have e1 : P ++ x :: (Y1 ++ Y2) ++ S = L := by rw [hL]; simp
      simp -dsimp -implicitDefEqProofs (disch := first | omega | (simp only [List.length_append, List.length_cons, List.length_nil, List.length_take, List.length_drop]; omega)) only [hs, e1, List.length_nil, Nat.add_zero, ↓aPre, aPost, oneW, allOne, retV, retVA, simprocAttr]
    rintro s ⟨A, B, rfl, hs⟩
    rw [List.length_append] at hl1
    obtain ⟨K, hK⟩ : ∃ K, K = a + A.length := ⟨_, rfl⟩
    rw [← hK] at hs
    cases B with
    | nil =>
      rw [List.length_nil] at hl1
      simp -dsimp -implicitDefEqProofs (disch := first | omega | (simp only [List.length_append, List.length_cons, List.length_nil, List.length_take, List.length_drop]; omega)) only [hs, ↓aPre, aPost, oneW, allOne, retV, retVA, simprocAttr]
      refine end_of rfl ?_
      have e1 : P ++ A ++ x :: Y2 ++ S = P ++ (A ++ x :: Y2) ++ S := by simp
      simp -dsimp -implicitDefEqProofs (disch := first | omega | (simp only [List.length_append, List.length_cons, List.length_nil, List.length_take, List.length_drop]; omega)) only [hs, e1, ↓aPre, aPost, oneW, allOne, retV, retVA, simprocAttr]
    | cons y B =>
      rw [List.length_cons] at hl1
      have hsw := sw_mid (L := P ++ A ++ x :: ((y :: B) ++ Y2) ++ S) (L' := P ++ (A ++ [y]) ++ x :: (B ++ Y2) ++ S) (A := P ++ A) (B := []) (C := B ++ Y2 ++ S) (x := x) (y := y) (i := K) (j := K + 1) (by simp) (by rw [List.length_append]; omega) (by rw [List.length_append, List.length_nil]; omega) (by simp)
      have hLN2 : (P ++ A ++ x :: ((y :: B) ++ Y2) ++ S).length = N := by rw [hN]; simp only [List.length_append, List.length_cons, List.length_nil]; omega
      obtain ⟨M, hM⟩ : ∃ M, M = P ++ A ++ x :: ((y :: B) ++ Y2) ++ S := ⟨_, rfl⟩
      rw [← hM] at hsw hs hLN2
      obtain ⟨w1, w2, w3, w4, w5, L1, L2, w6, w7, w8, w9, w10, w11, w12, w13⟩ := hsw
      have q1 := pcs_len M
      have q2 := pcs_len L1
      have q3 := pcs_len L2
      rw [hLN2] at q1
      rw [w6, hLN2] at q2
      rw [w7, hLN2] at q3
      rw [hLN2] at w2 w3
      have i1 : ((K : Int) + 1).toNat = K + 1 := by omega
      simp -dsimp -implicitDefEqProofs (disch := first | omega | (simp only [List.length_append, List.length_cons, List.length_nil, List.length_take, List.length_drop]; omega)) only [hs, q1, q2, q3, i1, w4, w5, w8, w9, w10, w11, w12, w13, ↓aPre, aPost, oneW, allOne, retV, retVA, simprocAttr]
      refine round_of ⟨A ++ [y], B, by simp, ?_⟩ ?_
      · have j1 : (K : Int) + 1 = ((a + (A ++ [y]).length : Nat) : Int) := by rw [List.length_append, List.length_cons, List.length_nil]; omega
        obtain ⟨q, hq⟩ : ∃ q, q = a + (A ++ [y]).length := ⟨_, rfl⟩
        rw [← hq] at j1 ⊢
        simp -dsimp -implicitDefEqProofs (disch := first | omega | (simp only [List.length_append, List.length_cons, List.length_nil, List.length_take, List.length_drop]; omega)) only [hs, j1, w9, w11, ↓aPre, aPost, oneW, allOne, retV, retVA, simprocAttr]
      · simp -dsimp -implicitDefEqProofs (disch := first | omega | (simp only [List.length_append, List.length_cons, List.length_nil, List.length_take, List.length_drop]; omega)) only [hs, ↓aPre, aPost, oneW, allOne, retV, retVA, simprocAttr]
        omega
end Go.Proofs.Ytlchakkdgkbabaa
