/- Swapping stretches of a row; one stretch behind the other. No condition but what each says. -/
import Derived.Test.YtlchakkdgkbabaaLLens
import Derived.Test.YtlchakkdgkbabaaWF
set_option linter.unusedSimpArgs false
set_option linter.unusedVariables false
set_option maxRecDepth 8000
set_option maxHeartbeats 4000000
namespace Go.Proofs.Ytlchakkdgkbabaa
open Go.Eng Go.RowKit
def pcD (p : Pc) : D := .agg [.c (.int .i64 p.1), .lst 1 (li .i64 p.2)]
theorem pcs_len (l : List Pc) : (l.map pcD).length = l.length := List.length_map ..
theorem get_mid {A B L : List Pc} {x : Pc} {i : Nat} (h : L = A ++ x :: B) (hi : i = A.length) : (L.map pcD).getD i default = .agg [.c (.int .i64 x.1), .lst 1 (li .i64 x.2)] := by
  subst h hi
  simp [List.getD, pcD]
theorem set_mid {A B L L' : List Pc} {x y : Pc} {i : Nat} (h : L = A ++ x :: B) (hi : i = A.length) (h' : L' = A ++ y :: B) : (L.map pcD).set i (.agg [.c (.int .i64 y.1), .lst 1 (li .i64 y.2)]) = L'.map pcD := by
  subst h hi h'
  rw [show (D.agg [.c (.int .i64 y.1), .lst 1 (li .i64 y.2)] : D) = pcD y from rfl, ← List.map_set]
  simp
/-- two that change places -/
structure Sw (L L' : List Pc) (i j : Nat) (x y : Pc) : Prop where
  len : L'.length = L.length
  li_ : i < L.length
  lj_ : j < L.length
  gi : (L.map pcD).getD i default = .agg [.c (.int .i64 x.1), .lst 1 (li .i64 x.2)]
  gj : (L.map pcD).getD j default = .agg [.c (.int .i64 y.1), .lst 1 (li .i64 y.2)]
  s : ∃ L1 L2 : List Pc, L1.length = L.length ∧ L2.length = L.length ∧ (L.map pcD).set i (.agg [.c (.int .i64 y.1), .lst 1 (li .i64 y.2)]) = L1.map pcD ∧ (L1.map pcD).set j (.agg [.c (.int .i64 x.1), .lst 1 (li .i64 x.2)]) = L'.map pcD ∧ (L.map pcD).set j (.agg [.c (.int .i64 x.1), .lst 1 (li .i64 x.2)]) = L2.map pcD ∧ (L2.map pcD).set i (.agg [.c (.int .i64 y.1), .lst 1 (li .i64 y.2)]) = L'.map pcD ∧
    (L1.map pcD).getD j default = .agg [.c (.int .i64 y.1), .lst 1 (li .i64 y.2)] ∧ (L2.map pcD).getD i default = .agg [.c (.int .i64 x.1), .lst 1 (li .i64 x.2)]
theorem sw_mid {A B C L L' : List Pc} {x y : Pc} {i j : Nat} (h : L = A ++ x :: (B ++ y :: C)) (hi : i = A.length) (hj : j = A.length + 1 + B.length) (h' : L' = A ++ y :: (B ++ x :: C)) : Sw L L' i j x y := by
  have e1 : L = (A ++ x :: B) ++ y :: C := by rw [h]; simp
  have e2 : L' = (A ++ y :: B) ++ x :: C := by rw [h']; simp
  have l1 : j = (A ++ x :: B).length := by rw [hj]; simp only [List.length_append, List.length_cons]; omega
  have l2 : j = (A ++ y :: B).length := by rw [hj]; simp only [List.length_append, List.length_cons]; omega
  refine ⟨by rw [h, h']; simp, by rw [h, hi]; simp only [List.length_append, List.length_cons]; omega, by rw [h, hj]; simp only [List.length_append, List.length_cons]; omega, get_mid h hi, get_mid e1 l1, A ++ y :: (B ++ y :: C), A ++ x :: (B ++ x :: C), by rw [h]; simp, by rw [h]; simp, set_mid h hi rfl, ?_, ?_, set_mid rfl hi h', ?_, ?_⟩
  · exact set_mid (show A ++ y :: (B ++ y :: C) = (A ++ y :: B) ++ y :: C by simp) l2 e2
  · exact set_mid e1 l1 (by simp)
  · exact get_mid (show A ++ y :: (B ++ y :: C) = (A ++ y :: B) ++ y :: C by simp) l2
  · exact get_mid rfl hi
theorem Sw.symm {L L' : List Pc} {i j : Nat} {x y : Pc} (h : Sw L L' i j x y) : Sw L L' j i y x := by
  obtain ⟨h1, h2, h3, h4, h5, L1, L2, g1, g2, g3, g4, g5, g6, g7, g8⟩ := h
  exact ⟨h1, h3, h2, h5, h4, L2, L1, g2, g1, g5, g6, g3, g4, g8, g7⟩
theorem swap_m (g : D) (P X Q Y S : List Pc) (a b n : Nat) (ha : a = P.length) (hb : b = P.length + X.length + Q.length) (hx : X.length = n) (hy : Y.length = n) (hl : (P ++ X ++ Q ++ Y ++ S).length ≤ 1000000) :
    GivM Try.prog 30 [.sl 2000000 2 0 (P ++ X ++ Q ++ Y ++ S).length, .d (.c (.int .i64 a)), .d (.c (.int .i64 b)), .d (.c (.int .i64 n)), .d g] [(2000000, .row 2 ((P ++ X ++ Q ++ Y ++ S).map pcD))] (.tup []) [(2000000, .row 2 ((P ++ Y ++ Q ++ X ++ S).map pcD))] := by
  obtain ⟨N, hN⟩ : ∃ N, N = (P ++ X ++ Q ++ Y ++ S).length := ⟨_, rfl⟩
  rw [← hN] at hl ⊢
  have hN2 : N = P.length + n + Q.length + n + S.length := by rw [hN]; simp only [List.length_append, hx, hy]
  refine GivM.of mixed c30 (Nat.le_of_ble_eq_true rfl) rfl rfl ?_
  simp -dsimp -implicitDefEqProofs (disch := first | omega | (simp only [List.length_append, List.length_cons, List.length_nil, List.length_take, List.length_drop]; omega)) only [a30, ↓aPre, aPost, oneW, allOne, retV, retVA, simprocAttr]
  refine loop_of (fun s => ∃ (X1 X2 Y1 Y2 L : List Pc), X = X1 ++ X2 ∧ Y = Y1 ++ Y2 ∧ X1.length = Y1.length ∧ L = P ++ Y1 ++ X2 ++ Q ++ X1 ++ Y2 ++ S ∧ s.tm 10 = .d (.c (.int .i64 X1.length)) ∧ s.tm 0 = .sl 2000000 2 0 N ∧ s.tm 1 = .d (.c (.int .i64 a)) ∧ s.tm 2 = .d (.c (.int .i64 b)) ∧ s.tm 3 = .d (.c (.int .i64 n)) ∧ s.hp 2000000 = some (.row 2 (L.map pcD))) (fun s => n - (avN (s.tm 10)).toNat) ?_ ?_
  · refine ⟨[], X, [], Y, P ++ X ++ Q ++ Y ++ S, rfl, rfl, rfl, by simp, ?_⟩
    simp -dsimp -implicitDefEqProofs (disch := first | omega | (simp only [List.length_append, List.length_cons, List.length_nil, List.length_take, List.length_drop]; omega)) only [List.length_nil, Int.natCast_zero, ↓aPre, aPost, oneW, allOne, retV, retVA, simprocAttr]
  rintro s ⟨X1, X2, Y1, Y2, L, hX, hY, hle, hL, hs⟩
  have lx : X1.length + X2.length = n := by rw [← hx, hX, List.length_append]
  have ly : Y1.length + Y2.length = n := by rw [← hy, hY, List.length_append]
  by_cases hlt : X1.length < n
  · obtain ⟨x, X3, rfl⟩ : ∃ x X3, X2 = x :: X3 := by
      cases X2 with
      | nil => simp at lx; omega
      | cons x X3 => exact ⟨x, X3, rfl⟩
    obtain ⟨y, Y3, rfl⟩ : ∃ y Y3, Y2 = y :: Y3 := by
      cases Y2 with
      | nil => simp at ly; omega
      | cons y Y3 => exact ⟨y, Y3, rfl⟩
    simp only [List.length_cons] at lx ly
    have hsw := sw_mid (L := L) (L' := P ++ (Y1 ++ [y]) ++ X3 ++ Q ++ (X1 ++ [x]) ++ Y3 ++ S) (A := P ++ Y1) (B := X3 ++ Q ++ X1) (C := Y3 ++ S) (x := x) (y := y) (i := a + X1.length) (j := b + X1.length) (by rw [hL]; simp) (by rw [List.length_append, ha, hle]) (by simp only [List.length_append]; omega) (by simp)
    obtain ⟨w1, w2, w3, w4, w5, L1, L2, w6, w7, w8, w9, w10, w11, w12, w13⟩ := hsw
    have hLN : L.length = N := by rw [hL, hN2]; simp only [List.length_append, List.length_cons]; omega
    have q1 := pcs_len L
    have q2 := pcs_len L1
    have q3 := pcs_len L2
    rw [hLN] at q1
    rw [w6, hLN] at q2
    rw [w7, hLN] at q3
    rw [hLN] at w2 w3
    have i1 : ((a : Int) + (X1.length : Int)).toNat = a + X1.length := by omega
    have i2 : ((b : Int) + (X1.length : Int)).toNat = b + X1.length := by omega
    simp -dsimp -implicitDefEqProofs (disch := first | omega | (simp only [List.length_append, List.length_cons, List.length_nil, List.length_take, List.length_drop]; omega)) only [hs, q1, q2, q3, i1, i2, w4, w5, w8, w9, w10, w11, w12, w13, ↓aPre, aPost, oneW, allOne, retV, retVA, simprocAttr]
    refine round_of ⟨X1 ++ [x], X3, Y1 ++ [y], Y3, _, by rw [hX]; simp, by rw [hY]; simp, by simp [hle], rfl, ?_⟩ ?_
    · have hl1 : (X1 ++ [x]).length = X1.length + 1 := by simp
      simp -dsimp -implicitDefEqProofs (disch := first | omega | (simp only [List.length_append, List.length_cons, List.length_nil, List.length_take, List.length_drop]; omega)) only [hs, hl1, q1, q2, q3, w9, w11, ↓aPre, aPost, oneW, allOne, retV, retVA, simprocAttr]
    · simp -dsimp -implicitDefEqProofs (disch := first | omega | (simp only [List.length_append, List.length_cons, List.length_nil, List.length_take, List.length_drop]; omega)) only [hs, ↓aPre, aPost, oneW, allOne, retV, retVA, simprocAttr]
      omega
  · obtain rfl : X2 = [] := List.eq_nil_of_length_eq_zero (by omega)
    obtain rfl : Y2 = [] := List.eq_nil_of_length_eq_zero (by omega)
    rw [List.append_nil] at hX hY
    rw [List.append_nil, List.append_nil, ← hX, ← hY] at hL
    rw [← hX] at hs
    rw [hL] at hs
    rw [← hX] at hlt
    simp -dsimp -implicitDefEqProofs (disch := first | omega | (simp only [List.length_append, List.length_cons, List.length_nil, List.length_take, List.length_drop]; omega)) only [hs, ↓aPre, aPost, oneW, allOne, retV, retVA, simprocAttr]
    refine end_of rfl ?_
    simp -dsimp -implicitDefEqProofs (disch := first | omega | (simp only [List.length_append, List.length_cons, List.length_nil, List.length_take, List.length_drop]; omega)) only [hs, ↓aPre, aPost, oneW, allOne, retV, retVA, simprocAttr]
/-- two stretches beside each other change places -/
theorem rotate_m (g : D) (P S : List Pc) (N : Nat) (hN : N ≤ 1000000) : ∀ (X Y : List Pc) (a m b : Nat), a = P.length → m = P.length + X.length → b = P.length + X.length + Y.length → N = P.length + X.length + Y.length + S.length → 1 ≤ X.length → 1 ≤ Y.length →
    GivM Try.prog 29 [.sl 2000000 2 0 N, .d (.c (.int .i64 a)), .d (.c (.int .i64 m)), .d (.c (.int .i64 b)), .d g] [(2000000, .row 2 ((P ++ X ++ Y ++ S).map pcD))] (.tup []) [(2000000, .row 2 ((P ++ Y ++ X ++ S).map pcD))] := by
  intro X Y a m b ha hm hb hN2 hx hy
  refine GivM.of mixed c29 (Nat.le_of_ble_eq_true rfl) rfl rfl ?_
  simp -dsimp -implicitDefEqProofs (disch := first | omega | (simp only [List.length_append, List.length_cons, List.length_nil, List.length_take, List.length_drop]; omega)) only [a29, ↓aPre, aPost, oneW, allOne, retV, retVA, simprocAttr]
  refine loop_of (fun s => ∃ (A X' Y' B : List Pc), P ++ Y ++ X ++ S = P ++ A ++ Y' ++ X' ++ B ++ S ∧ 1 ≤ X'.length ∧ 1 ≤ Y'.length ∧ m = P.length + A.length + X'.length ∧ N = P.length + A.length + X'.length + Y'.length + B.length + S.length ∧ s.tm 10 = .d (.c (.int .i64 X'.length)) ∧ s.tm 11 = .d (.c (.int .i64 Y'.length)) ∧ s.tm 0 = .sl 2000000 2 0 N ∧ s.tm 2 = .d (.c (.int .i64 m)) ∧ s.tm 4 = .d g ∧ s.hp 2000000 = some (.row 2 ((P ++ A ++ X' ++ Y' ++ B ++ S).map pcD))) (fun s => (avN (s.tm 10)).toNat + (avN (s.tm 11)).toNat) ?_ ?_
  · refine ⟨[], X, Y, [], by simp, hx, hy, by simp [hm], by simp [hN2], ?_⟩
    have i1 : (m : Int) - (a : Int) = X.length := by omega
    have i2 : (b : Int) - (m : Int) = Y.length := by omega
    simp -dsimp -implicitDefEqProofs (disch := first | omega | (simp only [List.length_append, List.length_cons, List.length_nil, List.length_take, List.length_drop]; omega)) only [i1, i2, ↓aPre, aPost, oneW, allOne, retV, retVA, simprocAttr]
  rintro s ⟨A, X', Y', B, hR, hx', hy', hm', hN', hs⟩
  have i0 : (m : Int) - (X'.length : Int) = ((P.length + A.length : Nat) : Int) := by omega
  by_cases he : X'.length = Y'.length
  · have hsw := swap_m g (P ++ A) X' [] Y' (B ++ S) (P.length + A.length) m X'.length (by rw [List.length_append]) (by simp only [List.length_append, List.length_nil]; omega) rfl he.symm (by simp only [List.length_append, List.length_nil]; omega)
    rw [show (P ++ A ++ X' ++ ([] : List Pc) ++ Y' ++ (B ++ S)).length = N by simp only [List.length_append, List.length_nil]; omega, show P ++ A ++ X' ++ ([] : List Pc) ++ Y' ++ (B ++ S) = P ++ A ++ X' ++ Y' ++ B ++ S by simp, show P ++ A ++ Y' ++ ([] : List Pc) ++ X' ++ (B ++ S) = P ++ A ++ Y' ++ X' ++ B ++ S by simp] at hsw
    have heI : (X'.length : Int) = (Y'.length : Int) := by omega
    obtain ⟨pa, hpa⟩ : ∃ pa, pa = P.length + A.length := ⟨_, rfl⟩
    rw [← hpa] at i0 hsw
    rw [he] at hsw i0
    simp -dsimp -implicitDefEqProofs (disch := first | omega | (simp only [List.length_append, List.length_cons, List.length_nil, List.length_take, List.length_drop]; omega)) only [hs, heI, i0, ↓aPre, aPost, oneW, allOne, retV, retVA, simprocAttr]
    refine call_mut hsw [] rfl rfl ?_ ?_
    · simp -dsimp -implicitDefEqProofs (disch := first | omega | (simp only [List.length_append, List.length_cons, List.length_nil, List.length_take, List.length_drop]; omega)) only [hs, ↓aPre, aPost, oneW, allOne, retV, retVA, simprocAttr]
    simp -dsimp -implicitDefEqProofs (disch := first | omega | (simp only [List.length_append, List.length_cons, List.length_nil, List.length_take, List.length_drop]; omega)) only [hs, ↓aPre, aPost, oneW, allOne, retV, retVA, simprocAttr]
    refine end_of rfl ?_
    simp -dsimp -implicitDefEqProofs (disch := first | omega | (simp only [List.length_append, List.length_cons, List.length_nil, List.length_take, List.length_drop]; omega)) only [hs, hR, ↓aPre, aPost, oneW, allOne, retV, retVA, simprocAttr]
  by_cases hgt : X'.length > Y'.length
  · obtain ⟨X1, X2, rfl, hl1⟩ : ∃ X1 X2, X' = X1 ++ X2 ∧ X1.length = Y'.length := ⟨X'.take Y'.length, X'.drop Y'.length, (List.take_append_drop _ _).symm, by rw [List.length_take]; omega⟩
    have hla : (X1 ++ X2).length = X1.length + X2.length := List.length_append
    have hsw := swap_m g (P ++ A) X1 X2 Y' (B ++ S) (P.length + A.length) m Y'.length (by rw [List.length_append]) (by simp only [List.length_append]; omega) hl1 rfl (by simp only [List.length_append]; omega)
    rw [show (P ++ A ++ X1 ++ X2 ++ Y' ++ (B ++ S)).length = N by simp only [List.length_append]; omega, show P ++ A ++ X1 ++ X2 ++ Y' ++ (B ++ S) = P ++ A ++ (X1 ++ X2) ++ Y' ++ B ++ S by simp] at hsw
    have heI : ¬ ((X1 ++ X2).length : Int) = (Y'.length : Int) := by omega
    have hgI : ((X1 ++ X2).length : Int) > (Y'.length : Int) := by omega
    obtain ⟨pa, hpa⟩ : ∃ pa, pa = P.length + A.length := ⟨_, rfl⟩
    rw [← hpa] at i0 hsw
    obtain ⟨q, hq⟩ : ∃ q, q = (X1 ++ X2).length := ⟨_, rfl⟩
    rw [← hq] at hs heI hgI i0 hla
    simp -dsimp -implicitDefEqProofs (disch := first | omega | (simp only [List.length_append, List.length_cons, List.length_nil, List.length_take, List.length_drop]; omega)) only [hs, heI, hgI, i0, ↓aPre, aPost, oneW, allOne, retV, retVA, simprocAttr]
    refine call_mut hsw [] rfl rfl ?_ ?_
    · simp -dsimp -implicitDefEqProofs (disch := first | omega | (simp only [List.length_append, List.length_cons, List.length_nil, List.length_take, List.length_drop]; omega)) only [hs, ↓aPre, aPost, oneW, allOne, retV, retVA, simprocAttr]
    simp -dsimp -implicitDefEqProofs (disch := first | omega | (simp only [List.length_append, List.length_cons, List.length_nil, List.length_take, List.length_drop]; omega)) only [hs, ↓aPre, aPost, oneW, allOne, retV, retVA, simprocAttr]
    refine round_of ⟨A ++ Y', X2, X1, B, by rw [hR]; simp, by omega, by omega, by rw [List.length_append]; omega, by rw [List.length_append]; omega, ?_⟩ ?_
    · have j1 : (q : Int) - (Y'.length : Int) = (X2.length : Int) := by omega
      have j2 : P ++ A ++ Y' ++ X2 ++ X1 ++ (B ++ S) = P ++ (A ++ Y') ++ X2 ++ X1 ++ B ++ S := by simp
      simp -dsimp -implicitDefEqProofs (disch := first | omega | (simp only [List.length_append, List.length_cons, List.length_nil, List.length_take, List.length_drop]; omega)) only [hs, j1, j2, hl1, ↓aPre, aPost, oneW, allOne, retV, retVA, simprocAttr]
    · simp -dsimp -implicitDefEqProofs (disch := first | omega | (simp only [List.length_append, List.length_cons, List.length_nil, List.length_take, List.length_drop]; omega)) only [hs, ↓aPre, aPost, oneW, allOne, retV, retVA, simprocAttr]
      omega
  · obtain ⟨Y1, Y2, rfl, hl1⟩ : ∃ Y1 Y2, Y' = Y1 ++ Y2 ∧ Y2.length = X'.length := ⟨Y'.take (Y'.length - X'.length), Y'.drop (Y'.length - X'.length), (List.take_append_drop _ _).symm, by rw [List.length_drop]; omega⟩
    have hla : (Y1 ++ Y2).length = Y1.length + Y2.length := List.length_append
    have hsw := swap_m g (P ++ A) X' Y1 Y2 (B ++ S) (P.length + A.length) (m + Y1.length) X'.length (by rw [List.length_append]) (by simp only [List.length_append]; omega) rfl hl1 (by simp only [List.length_append]; omega)
    rw [show (P ++ A ++ X' ++ Y1 ++ Y2 ++ (B ++ S)).length = N by simp only [List.length_append]; omega, show P ++ A ++ X' ++ Y1 ++ Y2 ++ (B ++ S) = P ++ A ++ X' ++ (Y1 ++ Y2) ++ B ++ S by simp] at hsw
    have heI : ¬ (X'.length : Int) = ((Y1 ++ Y2).length : Int) := by omega
    have hgI : ¬ (X'.length : Int) > ((Y1 ++ Y2).length : Int) := by omega
    obtain ⟨pa, hpa⟩ : ∃ pa, pa = P.length + A.length := ⟨_, rfl⟩
    rw [← hpa] at i0 hsw
    obtain ⟨q, hq⟩ : ∃ q, q = (Y1 ++ Y2).length := ⟨_, rfl⟩
    rw [← hq] at hs heI hgI hla
    obtain ⟨mm, hmm⟩ : ∃ mm, mm = m + Y1.length := ⟨_, rfl⟩
    rw [← hmm] at hsw
    have i3 : (m : Int) + (q : Int) - (X'.length : Int) = (mm : Int) := by omega
    simp -dsimp -implicitDefEqProofs (disch := first | omega | (simp only [List.length_append, List.length_cons, List.length_nil, List.length_take, List.length_drop]; omega)) only [hs, heI, hgI, i0, i3, ↓aPre, aPost, oneW, allOne, retV, retVA, simprocAttr]
    refine call_mut hsw [] rfl rfl ?_ ?_
    · simp -dsimp -implicitDefEqProofs (disch := first | omega | (simp only [List.length_append, List.length_cons, List.length_nil, List.length_take, List.length_drop]; omega)) only [hs, ↓aPre, aPost, oneW, allOne, retV, retVA, simprocAttr]
    simp -dsimp -implicitDefEqProofs (disch := first | omega | (simp only [List.length_append, List.length_cons, List.length_nil, List.length_take, List.length_drop]; omega)) only [hs, ↓aPre, aPost, oneW, allOne, retV, retVA, simprocAttr]
    refine round_of ⟨A, Y2, Y1, X' ++ B, by rw [hR]; simp, by omega, by omega, by omega, by rw [List.length_append]; omega, ?_⟩ ?_
    · have j1 : (q : Int) - (X'.length : Int) = (Y1.length : Int) := by omega
      have j2 : P ++ A ++ Y2 ++ Y1 ++ X' ++ (B ++ S) = P ++ A ++ Y2 ++ Y1 ++ (X' ++ B) ++ S := by simp
      simp -dsimp -implicitDefEqProofs (disch := first | omega | (simp only [List.length_append, List.length_cons, List.length_nil, List.length_take, List.length_drop]; omega)) only [hs, j1, j2, hl1, ↓aPre, aPost, oneW, allOne, retV, retVA, simprocAttr]
    · simp -dsimp -implicitDefEqProofs (disch := first | omega | (simp only [List.length_append, List.length_cons, List.length_nil, List.length_take, List.length_drop]; omega)) only [hs, ↓aPre, aPost, oneW, allOne, retV, retVA, simprocAttr]
      omega
end Go.Proofs.Ytlchakkdgkbabaa
