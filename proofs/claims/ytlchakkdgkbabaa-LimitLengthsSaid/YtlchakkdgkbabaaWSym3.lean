/- Two sorted stretches beside each other become one, whatever their lengths. No condition but what each says. -/
import Derived.Test.YtlchakkdgkbabaaWSym2
set_option linter.unusedSimpArgs false
set_option linter.unusedVariables false
set_option maxRecDepth 8000
set_option maxHeartbeats 16000000
namespace Go.Proofs.Ytlchakkdgkbabaa
open Go.Eng Go.RowKit
def SymN (g n : Nat) : Prop := ∀ (P X Y S : List Pc) (a m b N : Nat), X.length + Y.length ≤ n → Srt X → Srt Y → 1 ≤ X.length → 1 ≤ Y.length → a = P.length → m = a + X.length → b = m + Y.length → N = P.length + X.length + Y.length + S.length → N ≤ 1000000 →
    GivM Try.prog 26 [.sl 2000000 2 0 N, .d (.c (.int .i64 a)), .d (.c (.int .i64 m)), .d (.c (.int .i64 b)), .d (.fn g [])] [(2000000, .row 2 ((P ++ X ++ Y ++ S).map pcD))] (.tup []) [(2000000, .row 2 ((P ++ mrg X Y ++ S).map pcD))]
theorem sym_hi (g n : Nat) (hg : CmpF g) (ih : SymN g n) (P X Y S : List Pc) (a m b N : Nat) (hn : X.length + Y.length ≤ n + 1) (hX : Srt X) (hY : Srt Y) (hx1 : 2 ≤ X.length) (hy1 : 2 ≤ Y.length) (ha : a = P.length) (hm : m = a + X.length) (hb : b = m + Y.length) (hN : N = P.length + X.length + Y.length + S.length) (hl : N ≤ 1000000) (hgt : m > (a + b) / 2) :
    GivM Try.prog 26 [.sl 2000000 2 0 N, .d (.c (.int .i64 a)), .d (.c (.int .i64 m)), .d (.c (.int .i64 b)), .d (.fn g [])] [(2000000, .row 2 ((P ++ X ++ Y ++ S).map pcD))] (.tup []) [(2000000, .row 2 ((P ++ mrg X Y ++ S).map pcD))] := by
  obtain ⟨h, hh⟩ : ∃ h, h = (X.length + Y.length) / 2 := ⟨_, rfl⟩
  obtain ⟨mid, hmid⟩ : ∃ mid, mid = (a + b) / 2 := ⟨_, rfl⟩
  rw [← hmid] at hgt
  have hmid2 : mid = a + h := by omega
  have hvm := half_v a b (by omega)
  rw [← hmid] at hvm
  obtain ⟨nn, hnn⟩ : ∃ nn, nn = mid + m := ⟨_, rfl⟩
  obtain ⟨pp, hpp⟩ : ∃ pp, pp = nn - 1 := ⟨_, rfl⟩
  have i1 : (mid : Int) + (m : Int) = (nn : Int) := by omega
  have i2 : (nn : Int) - 1 = (pp : Int) := by omega
  refine GivM.of mixed c26 (Nat.le_of_ble_eq_true rfl) rfl rfl ?_
  have hm0 : ¬ (m : Int) - (a : Int) = 1 := by omega
  have hm1 : ¬ (b : Int) - (m : Int) = 1 := by omega
  obtain ⟨L, hL⟩ : ∃ L, L = P ++ X ++ Y ++ S := ⟨_, rfl⟩
  have hLN : (L.map pcD).length = N := by rw [pcs_len, hL, hN]; simp only [List.length_append]
  rw [← hL]
  obtain ⟨st0, hst0⟩ : ∃ st0, st0 = nn - b := ⟨_, rfl⟩
  obtain ⟨rr0, hrr0⟩ : ∃ rr0, rr0 = mid := ⟨_, rfl⟩
  have i3 : (nn : Int) - (b : Int) = (st0 : Int) := by omega
  simp -dsimp -implicitDefEqProofs (disch := first | omega | (simp only [List.length_append, List.length_cons, List.length_nil, List.length_take, List.length_drop]; omega)) only [a26, hm0, hm1, hvm, i1, i2, i3, ↓aPre, aPost, oneW, allOne, retV, retVA, simprocAttr]
  refine loop_of (fun st => ∃ (s r : Nat), (h - Y.length) ≤ s ∧ s ≤ r ∧ r ≤ h ∧ (∀ c, (h - Y.length) ≤ c → c < s → (el X c).1 ≤ (el Y (h - 1 - c)).1) ∧ (∀ c, r ≤ c → c < h → (el Y (h - 1 - c)).1 < (el X c).1) ∧ st.tm 20 = .d (.c (.int .i64 (a + s : Nat))) ∧ st.tm 21 = .d (.c (.int .i64 (a + r : Nat))) ∧ st.tm 22 = .d (.c (.int .i64 pp)) ∧ st.tm 19 = .d (.c (.int .i64 nn)) ∧ st.tm 18 = .d (.c (.int .i64 mid)) ∧ st.tm 0 = .sl 2000000 2 0 N ∧ st.tm 1 = .d (.c (.int .i64 a)) ∧ st.tm 2 = .d (.c (.int .i64 m)) ∧ st.tm 3 = .d (.c (.int .i64 b)) ∧ st.tm 4 = .d (.fn g []) ∧ st.hp 2000000 = some (.row 2 (L.map pcD))) (fun st => (avN (st.tm 21)).toNat - (avN (st.tm 20)).toNat) ?_ ?_
  · refine ⟨(h - Y.length), h, Nat.le_refl _, by omega, Nat.le_refl _, fun c h1 h2 => absurd h2 (by omega), fun c h1 h2 => absurd h2 (by omega), ?_⟩
    rw [show a + ((h - Y.length)) = st0 by omega, show a + h = mid by omega]
    simp -dsimp -implicitDefEqProofs (disch := first | omega | (simp only [List.length_append, List.length_cons, List.length_nil, List.length_take, List.length_drop]; omega)) only [i2, i3, ↓aPre, aPost, oneW, allOne, retV, retVA, simprocAttr]
  rintro st ⟨s, r, h1, h2, h3, low, high, hs⟩
  obtain ⟨I, hI⟩ : ∃ I, I = a + s := ⟨_, rfl⟩
  obtain ⟨J, hJ⟩ : ∃ J, J = a + r := ⟨_, rfl⟩
  rw [← hI, ← hJ] at hs
  by_cases hlt : s < r
  · obtain ⟨k, hk⟩ : ∃ k, k = (I + J) / 2 - a := ⟨_, rfl⟩
    have hkb : s ≤ k ∧ k < r := by omega
    have gk := el_D (L := L) (P := P) (Y := X) (S := Y ++ S) (k := k) (i := (I + J) / 2) (by rw [hL]; simp) (by omega) (by omega)
    have hc := hg (el Y (h - 1 - k)) (el X k)
    have hv := half_v I J (by omega)
    obtain ⟨H, hH⟩ : ∃ H, H = (I + J) / 2 := ⟨_, rfl⟩
    rw [← hH] at gk hv
    obtain ⟨G, hG⟩ : ∃ G, G = pp - H := ⟨_, rfl⟩
    have i4 : (pp : Int) - (H : Int) = (G : Int) := by omega
    have gy := el_D (L := L) (P := P ++ X) (Y := Y) (S := S) (k := h - 1 - k) (i := G) (by rw [hL]) (by rw [List.length_append]; omega) (by omega)
    simp -dsimp -implicitDefEqProofs (disch := first | omega | (simp only [List.length_append, List.length_cons, List.length_nil, List.length_take, List.length_drop]; omega)) only [hs, hv, hLN, i4, gk, gy, ↓aPre, aPost, oneW, allOne, retV, retVA, simprocAttr]
    refine call_giv hc ?_
    by_cases hlt2 : (el Y (h - 1 - k)).1 < (el X k).1
    · have hcm : cmpV (el Y (h - 1 - k)).1 (el X k).1 < 0 := cmpV_lt.2 hlt2
      simp -dsimp -implicitDefEqProofs (disch := first | omega | (simp only [List.length_append, List.length_cons, List.length_nil, List.length_take, List.length_drop]; omega)) only [hs, hcm, ↓aPre, aPost, oneW, allOne, retV, retVA, simprocAttr]
      refine round_of ⟨s, k, by omega, by omega, by omega, low, ?_, ?_⟩ ?_
      · intro u hu hu2
        have q1 := el_le hX (i := k) (j := u) (by omega) (by omega)
        have q2 := el_le hY (i := h - 1 - u) (j := h - 1 - k) (by omega) (by omega)
        omega
      · have j1 : H = a + k := by omega
        rw [← j1, ← hI]
        simp -dsimp -implicitDefEqProofs (disch := first | omega | (simp only [List.length_append, List.length_cons, List.length_nil, List.length_take, List.length_drop]; omega)) only [hs, ↓aPre, aPost, oneW, allOne, retV, retVA, simprocAttr]
      · simp -dsimp -implicitDefEqProofs (disch := first | omega | (simp only [List.length_append, List.length_cons, List.length_nil, List.length_take, List.length_drop]; omega)) only [hs, ↓aPre, aPost, oneW, allOne, retV, retVA, simprocAttr]
        omega
    · have hcm : ¬ cmpV (el Y (h - 1 - k)).1 (el X k).1 < 0 := fun h => hlt2 (cmpV_lt.1 h)
      simp -dsimp -implicitDefEqProofs (disch := first | omega | (simp only [List.length_append, List.length_cons, List.length_nil, List.length_take, List.length_drop]; omega)) only [hs, hcm, ↓aPre, aPost, oneW, allOne, retV, retVA, simprocAttr]
      refine round_of ⟨k + 1, r, by omega, by omega, h3, ?_, high, ?_⟩ ?_
      · intro u hu0 hu
        have q1 := el_le hX (i := u) (j := k) (by omega) (by omega)
        have q2 := el_le hY (i := h - 1 - k) (j := h - 1 - u) (by omega) (by omega)
        omega
      · have j1 : (H : Int) + 1 = ((a + (k + 1) : Nat) : Int) := by omega
        obtain ⟨q, hq⟩ : ∃ q, q = a + (k + 1) := ⟨_, rfl⟩
        rw [← hq] at j1 ⊢
        rw [← hJ]
        simp -dsimp -implicitDefEqProofs (disch := first | omega | (simp only [List.length_append, List.length_cons, List.length_nil, List.length_take, List.length_drop]; omega)) only [hs, j1, ↓aPre, aPost, oneW, allOne, retV, retVA, simprocAttr]
      · simp -dsimp -implicitDefEqProofs (disch := first | omega | (simp only [List.length_append, List.length_cons, List.length_nil, List.length_take, List.length_drop]; omega)) only [hs, ↓aPre, aPost, oneW, allOne, retV, retVA, simprocAttr]
        omega
  obtain rfl : s = r := by omega
  obtain rfl : I = J := by omega
  have hml := sym_law hX hY h1 h3 (by omega) (by omega) (by omega) low high (by omega) (by omega)
  rw [hml]
  obtain ⟨X1, X2, rfl, hl1⟩ : ∃ X1 X2, X = X1 ++ X2 ∧ X1.length = s := ⟨X.take s, X.drop s, (List.take_append_drop _ _).symm, by rw [List.length_take]; omega⟩
  obtain ⟨Y1, Y2, rfl, hl2⟩ : ∃ Y1 Y2, Y = Y1 ++ Y2 ∧ Y1.length = h - s := ⟨Y.take (h - s), Y.drop (h - s), (List.take_append_drop _ _).symm, by rw [List.length_take]; omega⟩
  rw [List.take_left' hl1, List.take_left' hl2, List.drop_left' hl1, List.drop_left' hl2]
  have sX := List.pairwise_append.1 hX
  have sY := List.pairwise_append.1 hY
  simp only [List.length_append] at hm hb hN hn hx1 hy1 hh h3
  obtain ⟨E, hE⟩ : ∃ E, E = nn - I := ⟨_, rfl⟩
  have i5 : (nn : Int) - (I : Int) = (E : Int) := by omega
  have hrot := fun q1 q2 => rotate_m (.fn g []) (P ++ X1) (Y2 ++ S) N hl X2 Y1 I m E (by rw [List.length_append]; omega) (by rw [List.length_append]; omega) (by rw [List.length_append]; omega) (by rw [List.length_append, List.length_append]; omega) q1 q2
  rw [show P ++ X1 ++ X2 ++ Y1 ++ (Y2 ++ S) = L by rw [hL]; simp] at hrot
  obtain ⟨L2, hL2⟩ : ∃ L2, L2 = P ++ X1 ++ Y1 ++ X2 ++ (Y2 ++ S) := ⟨_, rfl⟩
  rw [← hL2] at hrot
  have hs1 := fun q1 q2 => ih P X1 Y1 (X2 ++ Y2 ++ S) a I mid N (by omega) sX.1 sY.1 q1 q2 ha (by omega) (by omega) (by rw [List.length_append, List.length_append]; omega) hl
  rw [show P ++ X1 ++ Y1 ++ (X2 ++ Y2 ++ S) = L2 by rw [hL2]; simp] at hs1
  obtain ⟨L3, hL3⟩ : ∃ L3, L3 = P ++ mrg X1 Y1 ++ (X2 ++ Y2 ++ S) := ⟨_, rfl⟩
  rw [← hL3] at hs1
  have hs2 := fun q1 q2 => ih (P ++ mrg X1 Y1) X2 Y2 S mid E b N (by omega) sX.2.1 sY.2.1 q1 q2 (by rw [List.length_append, mrg_len]; omega) (by omega) (by omega) (by rw [List.length_append, mrg_len]; omega) hl
  rw [show P ++ mrg X1 Y1 ++ X2 ++ Y2 ++ S = L3 by rw [hL3]; simp] at hs2
  obtain ⟨L4, hL4⟩ : ∃ L4, L4 = P ++ mrg X1 Y1 ++ mrg X2 Y2 ++ S := ⟨_, rfl⟩
  rw [← hL4] at hs2
  have hres : P ++ (mrg X1 Y1 ++ mrg X2 Y2) ++ S = L4 := by rw [hL4]; simp
  rw [hres]
  have nil_of : ∀ {l : List Pc}, ¬ 0 < l.length → l = [] := fun h => List.eq_nil_of_length_eq_zero (by omega)
  have hEm : E = m + (h - s) := by omega
  by_cases c1 : I < m ∧ m < E
  · have c6 : I < mid := by omega
    have c7 : mid < E := by omega
    simp -dsimp -implicitDefEqProofs (disch := first | omega | (simp only [List.length_append, List.length_cons, List.length_nil, List.length_take, List.length_drop]; omega)) only [hs, i5, c1.1, c1.2, ↓aPre, aPost, oneW, allOne, retV, retVA, simprocAttr]
    refine call_mut (hrot (by omega) (by omega)) [] rfl rfl ?_ ?_
    · simp -dsimp -implicitDefEqProofs (disch := first | omega | (simp only [List.length_append, List.length_cons, List.length_nil, List.length_take, List.length_drop]; omega)) only [hs, ↓aPre, aPost, oneW, allOne, retV, retVA, simprocAttr]
    by_cases c2 : a < I
    · first
        | omega
        | (skip
           simp -dsimp -implicitDefEqProofs (disch := first | omega | (simp only [List.length_append, List.length_cons, List.length_nil, List.length_take, List.length_drop]; omega)) only [hs, i5, c2, c6, c7, ↓aPre, aPost, oneW, allOne, retV, retVA, simprocAttr]
           refine call_mut (hs1 (by omega) (by omega)) [] rfl rfl ?_ ?_
           · simp -dsimp -implicitDefEqProofs (disch := first | omega | (simp only [List.length_append, List.length_cons, List.length_nil, List.length_take, List.length_drop]; omega)) only [hs, ↓aPre, aPost, oneW, allOne, retV, retVA, simprocAttr]
           by_cases c3 : E < b
           · first
               | omega
               | (skip
                  simp -dsimp -implicitDefEqProofs (disch := first | omega | (simp only [List.length_append, List.length_cons, List.length_nil, List.length_take, List.length_drop]; omega)) only [hs, i5, c7, c3, ↓aPre, aPost, oneW, allOne, retV, retVA, simprocAttr]
                  refine call_mut (hs2 (by omega) (by omega)) [] rfl rfl ?_ ?_
                  · simp -dsimp -implicitDefEqProofs (disch := first | omega | (simp only [List.length_append, List.length_cons, List.length_nil, List.length_take, List.length_drop]; omega)) only [hs, ↓aPre, aPost, oneW, allOne, retV, retVA, simprocAttr]
                  simp -dsimp -implicitDefEqProofs (disch := first | omega | (simp only [List.length_append, List.length_cons, List.length_nil, List.length_take, List.length_drop]; omega)) only [hs, ↓aPre, aPost, oneW, allOne, retV, retVA, simprocAttr]
                  refine end_of rfl ?_
                  simp -dsimp -implicitDefEqProofs (disch := first | omega | (simp only [List.length_append, List.length_cons, List.length_nil, List.length_take, List.length_drop]; omega)) only [hs, ↓aPre, aPost, oneW, allOne, retV, retVA, simprocAttr])
           · first
               | omega
               | (skip
                  have e3 : L4 = L3 := by
                    rw [hL3, hL4]
                    obtain rfl := nil_of (l := Y2) (by omega)
                    simp only [mrg_nil_l, mrg_nil_r, List.append_nil, List.nil_append, List.append_assoc]
                  subst e3
                  simp -dsimp -implicitDefEqProofs (disch := first | omega | (simp only [List.length_append, List.length_cons, List.length_nil, List.length_take, List.length_drop]; omega)) only [hs, i5, c7, ↓aPre, aPost, oneW, allOne, retV, retVA, simprocAttr]
                  refine end_of rfl ?_
                  simp -dsimp -implicitDefEqProofs (disch := first | omega | (simp only [List.length_append, List.length_cons, List.length_nil, List.length_take, List.length_drop]; omega)) only [hs, ↓aPre, aPost, oneW, allOne, retV, retVA, simprocAttr]))
    · first
        | omega
        | (skip
           have e2 : L3 = L2 := by
             rw [hL2, hL3]
             obtain rfl := nil_of (l := X1) (by omega)
             simp only [mrg_nil_l, mrg_nil_r, List.append_nil, List.nil_append, List.append_assoc]
           subst e2
           by_cases c3 : E < b
           · first
               | omega
               | (skip
                  simp -dsimp -implicitDefEqProofs (disch := first | omega | (simp only [List.length_append, List.length_cons, List.length_nil, List.length_take, List.length_drop]; omega)) only [hs, i5, c2, c6, c7, c3, ↓aPre, aPost, oneW, allOne, retV, retVA, simprocAttr]
                  refine call_mut (hs2 (by omega) (by omega)) [] rfl rfl ?_ ?_
                  · simp -dsimp -implicitDefEqProofs (disch := first | omega | (simp only [List.length_append, List.length_cons, List.length_nil, List.length_take, List.length_drop]; omega)) only [hs, ↓aPre, aPost, oneW, allOne, retV, retVA, simprocAttr]
                  simp -dsimp -implicitDefEqProofs (disch := first | omega | (simp only [List.length_append, List.length_cons, List.length_nil, List.length_take, List.length_drop]; omega)) only [hs, ↓aPre, aPost, oneW, allOne, retV, retVA, simprocAttr]
                  refine end_of rfl ?_
                  simp -dsimp -implicitDefEqProofs (disch := first | omega | (simp only [List.length_append, List.length_cons, List.length_nil, List.length_take, List.length_drop]; omega)) only [hs, ↓aPre, aPost, oneW, allOne, retV, retVA, simprocAttr])
           · first
               | omega
               | (skip
                  have e3 : L4 = L3 := by
                    rw [hL3, hL4]
                    obtain rfl := nil_of (l := Y2) (by omega)
                    simp only [mrg_nil_l, mrg_nil_r, List.append_nil, List.nil_append, List.append_assoc]
                  subst e3
                  simp -dsimp -implicitDefEqProofs (disch := first | omega | (simp only [List.length_append, List.length_cons, List.length_nil, List.length_take, List.length_drop]; omega)) only [hs, i5, c7, ↓aPre, aPost, oneW, allOne, retV, retVA, simprocAttr]
                  refine end_of rfl ?_
                  simp -dsimp -implicitDefEqProofs (disch := first | omega | (simp only [List.length_append, List.length_cons, List.length_nil, List.length_take, List.length_drop]; omega)) only [hs, ↓aPre, aPost, oneW, allOne, retV, retVA, simprocAttr]))
  by_cases c4 : I < m
  · first
      | omega
      | (skip
         have c5 : ¬ m < E := fun h => c1 ⟨c4, h⟩
         have e1 : L2 = L := by
           rw [hL, hL2]
           obtain rfl := nil_of (l := Y1) (by omega)
           simp only [mrg_nil_l, mrg_nil_r, List.append_nil, List.nil_append, List.append_assoc]
         subst e1
         have e2 : L3 = L2 := by
           rw [hL2, hL3]
           obtain rfl := nil_of (l := Y1) (by omega)
           simp only [mrg_nil_l, mrg_nil_r, List.append_nil, List.nil_append, List.append_assoc]
         subst e2
         have c2 : a < I := by omega
         have c6 : ¬ I < mid := by omega
         have c7 : mid < E := by omega
         have c3 : E < b := by omega
         simp -dsimp -implicitDefEqProofs (disch := first | omega | (simp only [List.length_append, List.length_cons, List.length_nil, List.length_take, List.length_drop]; omega)) only [hs, i5, c4, c5, c2, c6, c7, c3, ↓aPre, aPost, oneW, allOne, retV, retVA, simprocAttr]
         refine call_mut (hs2 (by omega) (by omega)) [] rfl rfl ?_ ?_
         · simp -dsimp -implicitDefEqProofs (disch := first | omega | (simp only [List.length_append, List.length_cons, List.length_nil, List.length_take, List.length_drop]; omega)) only [hs, ↓aPre, aPost, oneW, allOne, retV, retVA, simprocAttr]
         simp -dsimp -implicitDefEqProofs (disch := first | omega | (simp only [List.length_append, List.length_cons, List.length_nil, List.length_take, List.length_drop]; omega)) only [hs, ↓aPre, aPost, oneW, allOne, retV, retVA, simprocAttr]
         refine end_of rfl ?_
         simp -dsimp -implicitDefEqProofs (disch := first | omega | (simp only [List.length_append, List.length_cons, List.length_nil, List.length_take, List.length_drop]; omega)) only [hs, ↓aPre, aPost, oneW, allOne, retV, retVA, simprocAttr])
  · first
      | omega
      | (skip
         have e1 : L2 = L := by
           rw [hL, hL2]
           obtain rfl := nil_of (l := X2) (by omega)
           simp only [mrg_nil_l, mrg_nil_r, List.append_nil, List.nil_append, List.append_assoc]
         subst e1
         have c2 : a < I := by omega
         have c7 : ¬ mid < E := by omega
         by_cases c6 : I < mid
         · first
             | omega
             | (skip
                simp -dsimp -implicitDefEqProofs (disch := first | omega | (simp only [List.length_append, List.length_cons, List.length_nil, List.length_take, List.length_drop]; omega)) only [hs, i5, c4, c2, c6, ↓aPre, aPost, oneW, allOne, retV, retVA, simprocAttr]
                refine call_mut (hs1 (by omega) (by omega)) [] rfl rfl ?_ ?_
                · simp -dsimp -implicitDefEqProofs (disch := first | omega | (simp only [List.length_append, List.length_cons, List.length_nil, List.length_take, List.length_drop]; omega)) only [hs, ↓aPre, aPost, oneW, allOne, retV, retVA, simprocAttr]
                have e3 : L4 = L3 := by
                  rw [hL3, hL4]
                  obtain rfl := nil_of (l := X2) (by omega)
                  simp only [mrg_nil_l, mrg_nil_r, List.append_nil, List.nil_append, List.append_assoc]
                subst e3
                simp -dsimp -implicitDefEqProofs (disch := first | omega | (simp only [List.length_append, List.length_cons, List.length_nil, List.length_take, List.length_drop]; omega)) only [hs, i5, c7, ↓aPre, aPost, oneW, allOne, retV, retVA, simprocAttr]
                refine end_of rfl ?_
                simp -dsimp -implicitDefEqProofs (disch := first | omega | (simp only [List.length_append, List.length_cons, List.length_nil, List.length_take, List.length_drop]; omega)) only [hs, ↓aPre, aPost, oneW, allOne, retV, retVA, simprocAttr])
         · first
             | omega
             | (skip
                have e2 : L3 = L2 := by
                  rw [hL2, hL3]
                  obtain rfl := nil_of (l := Y1) (by omega)
                  simp only [mrg_nil_l, mrg_nil_r, List.append_nil, List.nil_append, List.append_assoc]
                subst e2
                have e3 : L4 = L3 := by
                  rw [hL3, hL4]
                  obtain rfl := nil_of (l := X2) (by omega)
                  simp only [mrg_nil_l, mrg_nil_r, List.append_nil, List.nil_append, List.append_assoc]
                subst e3
                simp -dsimp -implicitDefEqProofs (disch := first | omega | (simp only [List.length_append, List.length_cons, List.length_nil, List.length_take, List.length_drop]; omega)) only [hs, i5, c4, c2, c6, c7, ↓aPre, aPost, oneW, allOne, retV, retVA, simprocAttr]
                refine end_of rfl ?_
                simp -dsimp -implicitDefEqProofs (disch := first | omega | (simp only [List.length_append, List.length_cons, List.length_nil, List.length_take, List.length_drop]; omega)) only [hs, ↓aPre, aPost, oneW, allOne, retV, retVA, simprocAttr]))
theorem sym_lo (g n : Nat) (hg : CmpF g) (ih : SymN g n) (P X Y S : List Pc) (a m b N : Nat) (hn : X.length + Y.length ≤ n + 1) (hX : Srt X) (hY : Srt Y) (hx1 : 2 ≤ X.length) (hy1 : 2 ≤ Y.length) (ha : a = P.length) (hm : m = a + X.length) (hb : b = m + Y.length) (hN : N = P.length + X.length + Y.length + S.length) (hl : N ≤ 1000000) (hgt : ¬ m > (a + b) / 2) :
    GivM Try.prog 26 [.sl 2000000 2 0 N, .d (.c (.int .i64 a)), .d (.c (.int .i64 m)), .d (.c (.int .i64 b)), .d (.fn g [])] [(2000000, .row 2 ((P ++ X ++ Y ++ S).map pcD))] (.tup []) [(2000000, .row 2 ((P ++ mrg X Y ++ S).map pcD))] := by
  obtain ⟨h, hh⟩ : ∃ h, h = (X.length + Y.length) / 2 := ⟨_, rfl⟩
  obtain ⟨mid, hmid⟩ : ∃ mid, mid = (a + b) / 2 := ⟨_, rfl⟩
  rw [← hmid] at hgt
  have hmid2 : mid = a + h := by omega
  have hvm := half_v a b (by omega)
  rw [← hmid] at hvm
  obtain ⟨nn, hnn⟩ : ∃ nn, nn = mid + m := ⟨_, rfl⟩
  obtain ⟨pp, hpp⟩ : ∃ pp, pp = nn - 1 := ⟨_, rfl⟩
  have i1 : (mid : Int) + (m : Int) = (nn : Int) := by omega
  have i2 : (nn : Int) - 1 = (pp : Int) := by omega
  refine GivM.of mixed c26 (Nat.le_of_ble_eq_true rfl) rfl rfl ?_
  have hm0 : ¬ (m : Int) - (a : Int) = 1 := by omega
  have hm1 : ¬ (b : Int) - (m : Int) = 1 := by omega
  obtain ⟨L, hL⟩ : ∃ L, L = P ++ X ++ Y ++ S := ⟨_, rfl⟩
  have hLN : (L.map pcD).length = N := by rw [pcs_len, hL, hN]; simp only [List.length_append]
  rw [← hL]
  obtain ⟨st0, hst0⟩ : ∃ st0, st0 = a := ⟨_, rfl⟩
  obtain ⟨rr0, hrr0⟩ : ∃ rr0, rr0 = m := ⟨_, rfl⟩
  have i3 : (0 : Int) = 0 := rfl
  simp -dsimp -implicitDefEqProofs (disch := first | omega | (simp only [List.length_append, List.length_cons, List.length_nil, List.length_take, List.length_drop]; omega)) only [a26, hm0, hm1, hvm, i1, i2, ↓aPre, aPost, oneW, allOne, retV, retVA, simprocAttr]
  refine loop_of (fun st => ∃ (s r : Nat), 0 ≤ s ∧ s ≤ r ∧ r ≤ X.length ∧ (∀ c, 0 ≤ c → c < s → (el X c).1 ≤ (el Y (h - 1 - c)).1) ∧ (∀ c, r ≤ c → c < X.length → (el Y (h - 1 - c)).1 < (el X c).1) ∧ st.tm 20 = .d (.c (.int .i64 (a + s : Nat))) ∧ st.tm 21 = .d (.c (.int .i64 (a + r : Nat))) ∧ st.tm 22 = .d (.c (.int .i64 pp)) ∧ st.tm 19 = .d (.c (.int .i64 nn)) ∧ st.tm 18 = .d (.c (.int .i64 mid)) ∧ st.tm 0 = .sl 2000000 2 0 N ∧ st.tm 1 = .d (.c (.int .i64 a)) ∧ st.tm 2 = .d (.c (.int .i64 m)) ∧ st.tm 3 = .d (.c (.int .i64 b)) ∧ st.tm 4 = .d (.fn g []) ∧ st.hp 2000000 = some (.row 2 (L.map pcD))) (fun st => (avN (st.tm 21)).toNat - (avN (st.tm 20)).toNat) ?_ ?_
  · refine ⟨0, X.length, Nat.le_refl _, by omega, Nat.le_refl _, fun c h1 h2 => absurd h2 (by omega), fun c h1 h2 => absurd h2 (by omega), ?_⟩
    rw [show a + (0) = a by omega, show a + X.length = m by omega]
    simp -dsimp -implicitDefEqProofs (disch := first | omega | (simp only [List.length_append, List.length_cons, List.length_nil, List.length_take, List.length_drop]; omega)) only [i2, i3, ↓aPre, aPost, oneW, allOne, retV, retVA, simprocAttr]
  rintro st ⟨s, r, h1, h2, h3, low, high, hs⟩
  obtain ⟨I, hI⟩ : ∃ I, I = a + s := ⟨_, rfl⟩
  obtain ⟨J, hJ⟩ : ∃ J, J = a + r := ⟨_, rfl⟩
  rw [← hI, ← hJ] at hs
  by_cases hlt : s < r
  · obtain ⟨k, hk⟩ : ∃ k, k = (I + J) / 2 - a := ⟨_, rfl⟩
    have hkb : s ≤ k ∧ k < r := by omega
    have gk := el_D (L := L) (P := P) (Y := X) (S := Y ++ S) (k := k) (i := (I + J) / 2) (by rw [hL]; simp) (by omega) (by omega)
    have hc := hg (el Y (h - 1 - k)) (el X k)
    have hv := half_v I J (by omega)
    obtain ⟨H, hH⟩ : ∃ H, H = (I + J) / 2 := ⟨_, rfl⟩
    rw [← hH] at gk hv
    obtain ⟨G, hG⟩ : ∃ G, G = pp - H := ⟨_, rfl⟩
    have i4 : (pp : Int) - (H : Int) = (G : Int) := by omega
    have gy := el_D (L := L) (P := P ++ X) (Y := Y) (S := S) (k := h - 1 - k) (i := G) (by rw [hL]) (by rw [List.length_append]; omega) (by omega)
    simp -dsimp -implicitDefEqProofs (disch := first | omega | (simp only [List.length_append, List.length_cons, List.length_nil, List.length_take, List.length_drop]; omega)) only [hs, hv, hLN, i4, gk, gy, ↓aPre, aPost, oneW, allOne, retV, retVA, simprocAttr]
    refine call_giv hc ?_
    by_cases hlt2 : (el Y (h - 1 - k)).1 < (el X k).1
    · have hcm : cmpV (el Y (h - 1 - k)).1 (el X k).1 < 0 := cmpV_lt.2 hlt2
      simp -dsimp -implicitDefEqProofs (disch := first | omega | (simp only [List.length_append, List.length_cons, List.length_nil, List.length_take, List.length_drop]; omega)) only [hs, hcm, ↓aPre, aPost, oneW, allOne, retV, retVA, simprocAttr]
      refine round_of ⟨s, k, by omega, by omega, by omega, low, ?_, ?_⟩ ?_
      · intro u hu hu2
        have q1 := el_le hX (i := k) (j := u) (by omega) (by omega)
        have q2 := el_le hY (i := h - 1 - u) (j := h - 1 - k) (by omega) (by omega)
        omega
      · have j1 : H = a + k := by omega
        rw [← j1, ← hI]
        simp -dsimp -implicitDefEqProofs (disch := first | omega | (simp only [List.length_append, List.length_cons, List.length_nil, List.length_take, List.length_drop]; omega)) only [hs, ↓aPre, aPost, oneW, allOne, retV, retVA, simprocAttr]
      · simp -dsimp -implicitDefEqProofs (disch := first | omega | (simp only [List.length_append, List.length_cons, List.length_nil, List.length_take, List.length_drop]; omega)) only [hs, ↓aPre, aPost, oneW, allOne, retV, retVA, simprocAttr]
        omega
    · have hcm : ¬ cmpV (el Y (h - 1 - k)).1 (el X k).1 < 0 := fun h => hlt2 (cmpV_lt.1 h)
      simp -dsimp -implicitDefEqProofs (disch := first | omega | (simp only [List.length_append, List.length_cons, List.length_nil, List.length_take, List.length_drop]; omega)) only [hs, hcm, ↓aPre, aPost, oneW, allOne, retV, retVA, simprocAttr]
      refine round_of ⟨k + 1, r, by omega, by omega, h3, ?_, high, ?_⟩ ?_
      · intro u hu0 hu
        have q1 := el_le hX (i := u) (j := k) (by omega) (by omega)
        have q2 := el_le hY (i := h - 1 - k) (j := h - 1 - u) (by omega) (by omega)
        omega
      · have j1 : (H : Int) + 1 = ((a + (k + 1) : Nat) : Int) := by omega
        obtain ⟨q, hq⟩ : ∃ q, q = a + (k + 1) := ⟨_, rfl⟩
        rw [← hq] at j1 ⊢
        rw [← hJ]
        simp -dsimp -implicitDefEqProofs (disch := first | omega | (simp only [List.length_append, List.length_cons, List.length_nil, List.length_take, List.length_drop]; omega)) only [hs, j1, ↓aPre, aPost, oneW, allOne, retV, retVA, simprocAttr]
      · simp -dsimp -implicitDefEqProofs (disch := first | omega | (simp only [List.length_append, List.length_cons, List.length_nil, List.length_take, List.length_drop]; omega)) only [hs, ↓aPre, aPost, oneW, allOne, retV, retVA, simprocAttr]
        omega
  obtain rfl : s = r := by omega
  obtain rfl : I = J := by omega
  have hml := sym_law hX hY h1 h3 (by omega) (by omega) (by omega) low high (by omega) (by omega)
  rw [hml]
  obtain ⟨X1, X2, rfl, hl1⟩ : ∃ X1 X2, X = X1 ++ X2 ∧ X1.length = s := ⟨X.take s, X.drop s, (List.take_append_drop _ _).symm, by rw [List.length_take]; omega⟩
  obtain ⟨Y1, Y2, rfl, hl2⟩ : ∃ Y1 Y2, Y = Y1 ++ Y2 ∧ Y1.length = h - s := ⟨Y.take (h - s), Y.drop (h - s), (List.take_append_drop _ _).symm, by rw [List.length_take]; omega⟩
  rw [List.take_left' hl1, List.take_left' hl2, List.drop_left' hl1, List.drop_left' hl2]
  have sX := List.pairwise_append.1 hX
  have sY := List.pairwise_append.1 hY
  simp only [List.length_append] at hm hb hN hn hx1 hy1 hh h3
  obtain ⟨E, hE⟩ : ∃ E, E = nn - I := ⟨_, rfl⟩
  have i5 : (nn : Int) - (I : Int) = (E : Int) := by omega
  have hrot := fun q1 q2 => rotate_m (.fn g []) (P ++ X1) (Y2 ++ S) N hl X2 Y1 I m E (by rw [List.length_append]; omega) (by rw [List.length_append]; omega) (by rw [List.length_append]; omega) (by rw [List.length_append, List.length_append]; omega) q1 q2
  rw [show P ++ X1 ++ X2 ++ Y1 ++ (Y2 ++ S) = L by rw [hL]; simp] at hrot
  obtain ⟨L2, hL2⟩ : ∃ L2, L2 = P ++ X1 ++ Y1 ++ X2 ++ (Y2 ++ S) := ⟨_, rfl⟩
  rw [← hL2] at hrot
  have hs1 := fun q1 q2 => ih P X1 Y1 (X2 ++ Y2 ++ S) a I mid N (by omega) sX.1 sY.1 q1 q2 ha (by omega) (by omega) (by rw [List.length_append, List.length_append]; omega) hl
  rw [show P ++ X1 ++ Y1 ++ (X2 ++ Y2 ++ S) = L2 by rw [hL2]; simp] at hs1
  obtain ⟨L3, hL3⟩ : ∃ L3, L3 = P ++ mrg X1 Y1 ++ (X2 ++ Y2 ++ S) := ⟨_, rfl⟩
  rw [← hL3] at hs1
  have hs2 := fun q1 q2 => ih (P ++ mrg X1 Y1) X2 Y2 S mid E b N (by omega) sX.2.1 sY.2.1 q1 q2 (by rw [List.length_append, mrg_len]; omega) (by omega) (by omega) (by rw [List.length_append, mrg_len]; omega) hl
  rw [show P ++ mrg X1 Y1 ++ X2 ++ Y2 ++ S = L3 by rw [hL3]; simp] at hs2
  obtain ⟨L4, hL4⟩ : ∃ L4, L4 = P ++ mrg X1 Y1 ++ mrg X2 Y2 ++ S := ⟨_, rfl⟩
  rw [← hL4] at hs2
  have hres : P ++ (mrg X1 Y1 ++ mrg X2 Y2) ++ S = L4 := by rw [hL4]; simp
  rw [hres]
  have nil_of : ∀ {l : List Pc}, ¬ 0 < l.length → l = [] := fun h => List.eq_nil_of_length_eq_zero (by omega)
  have hEm : E = m + (h - s) := by omega
  by_cases c1 : I < m ∧ m < E
  · have c6 : I < mid := by omega
    have c7 : mid < E := by omega
    simp -dsimp -implicitDefEqProofs (disch := first | omega | (simp only [List.length_append, List.length_cons, List.length_nil, List.length_take, List.length_drop]; omega)) only [hs, i5, c1.1, c1.2, ↓aPre, aPost, oneW, allOne, retV, retVA, simprocAttr]
    refine call_mut (hrot (by omega) (by omega)) [] rfl rfl ?_ ?_
    · simp -dsimp -implicitDefEqProofs (disch := first | omega | (simp only [List.length_append, List.length_cons, List.length_nil, List.length_take, List.length_drop]; omega)) only [hs, ↓aPre, aPost, oneW, allOne, retV, retVA, simprocAttr]
    by_cases c2 : a < I
    · first
        | omega
        | (skip
           simp -dsimp -implicitDefEqProofs (disch := first | omega | (simp only [List.length_append, List.length_cons, List.length_nil, List.length_take, List.length_drop]; omega)) only [hs, i5, c2, c6, c7, ↓aPre, aPost, oneW, allOne, retV, retVA, simprocAttr]
           refine call_mut (hs1 (by omega) (by omega)) [] rfl rfl ?_ ?_
           · simp -dsimp -implicitDefEqProofs (disch := first | omega | (simp only [List.length_append, List.length_cons, List.length_nil, List.length_take, List.length_drop]; omega)) only [hs, ↓aPre, aPost, oneW, allOne, retV, retVA, simprocAttr]
           by_cases c3 : E < b
           · first
               | omega
               | (skip
                  simp -dsimp -implicitDefEqProofs (disch := first | omega | (simp only [List.length_append, List.length_cons, List.length_nil, List.length_take, List.length_drop]; omega)) only [hs, i5, c7, c3, ↓aPre, aPost, oneW, allOne, retV, retVA, simprocAttr]
                  refine call_mut (hs2 (by omega) (by omega)) [] rfl rfl ?_ ?_
                  · simp -dsimp -implicitDefEqProofs (disch := first | omega | (simp only [List.length_append, List.length_cons, List.length_nil, List.length_take, List.length_drop]; omega)) only [hs, ↓aPre, aPost, oneW, allOne, retV, retVA, simprocAttr]
                  simp -dsimp -implicitDefEqProofs (disch := first | omega | (simp only [List.length_append, List.length_cons, List.length_nil, List.length_take, List.length_drop]; omega)) only [hs, ↓aPre, aPost, oneW, allOne, retV, retVA, simprocAttr]
                  refine end_of rfl ?_
                  simp -dsimp -implicitDefEqProofs (disch := first | omega | (simp only [List.length_append, List.length_cons, List.length_nil, List.length_take, List.length_drop]; omega)) only [hs, ↓aPre, aPost, oneW, allOne, retV, retVA, simprocAttr])
           · first
               | omega
               | (skip
                  have e3 : L4 = L3 := by
                    rw [hL3, hL4]
                    obtain rfl := nil_of (l := Y2) (by omega)
                    simp only [mrg_nil_l, mrg_nil_r, List.append_nil, List.nil_append, List.append_assoc]
                  subst e3
                  simp -dsimp -implicitDefEqProofs (disch := first | omega | (simp only [List.length_append, List.length_cons, List.length_nil, List.length_take, List.length_drop]; omega)) only [hs, i5, c7, ↓aPre, aPost, oneW, allOne, retV, retVA, simprocAttr]
                  refine end_of rfl ?_
                  simp -dsimp -implicitDefEqProofs (disch := first | omega | (simp only [List.length_append, List.length_cons, List.length_nil, List.length_take, List.length_drop]; omega)) only [hs, ↓aPre, aPost, oneW, allOne, retV, retVA, simprocAttr]))
    · first
        | omega
        | (skip
           have e2 : L3 = L2 := by
             rw [hL2, hL3]
             obtain rfl := nil_of (l := X1) (by omega)
             simp only [mrg_nil_l, mrg_nil_r, List.append_nil, List.nil_append, List.append_assoc]
           subst e2
           by_cases c3 : E < b
           · first
               | omega
               | (skip
                  simp -dsimp -implicitDefEqProofs (disch := first | omega | (simp only [List.length_append, List.length_cons, List.length_nil, List.length_take, List.length_drop]; omega)) only [hs, i5, c2, c6, c7, c3, ↓aPre, aPost, oneW, allOne, retV, retVA, simprocAttr]
                  refine call_mut (hs2 (by omega) (by omega)) [] rfl rfl ?_ ?_
                  · simp -dsimp -implicitDefEqProofs (disch := first | omega | (simp only [List.length_append, List.length_cons, List.length_nil, List.length_take, List.length_drop]; omega)) only [hs, ↓aPre, aPost, oneW, allOne, retV, retVA, simprocAttr]
                  simp -dsimp -implicitDefEqProofs (disch := first | omega | (simp only [List.length_append, List.length_cons, List.length_nil, List.length_take, List.length_drop]; omega)) only [hs, ↓aPre, aPost, oneW, allOne, retV, retVA, simprocAttr]
                  refine end_of rfl ?_
                  simp -dsimp -implicitDefEqProofs (disch := first | omega | (simp only [List.length_append, List.length_cons, List.length_nil, List.length_take, List.length_drop]; omega)) only [hs, ↓aPre, aPost, oneW, allOne, retV, retVA, simprocAttr])
           · first
               | omega
               | (skip
                  have e3 : L4 = L3 := by
                    rw [hL3, hL4]
                    obtain rfl := nil_of (l := Y2) (by omega)
                    simp only [mrg_nil_l, mrg_nil_r, List.append_nil, List.nil_append, List.append_assoc]
                  subst e3
                  simp -dsimp -implicitDefEqProofs (disch := first | omega | (simp only [List.length_append, List.length_cons, List.length_nil, List.length_take, List.length_drop]; omega)) only [hs, i5, c7, ↓aPre, aPost, oneW, allOne, retV, retVA, simprocAttr]
                  refine end_of rfl ?_
                  simp -dsimp -implicitDefEqProofs (disch := first | omega | (simp only [List.length_append, List.length_cons, List.length_nil, List.length_take, List.length_drop]; omega)) only [hs, ↓aPre, aPost, oneW, allOne, retV, retVA, simprocAttr]))
  by_cases c4 : I < m
  · first
      | omega
      | (skip
         have c5 : ¬ m < E := fun h => c1 ⟨c4, h⟩
         have e1 : L2 = L := by
           rw [hL, hL2]
           obtain rfl := nil_of (l := Y1) (by omega)
           simp only [mrg_nil_l, mrg_nil_r, List.append_nil, List.nil_append, List.append_assoc]
         subst e1
         have e2 : L3 = L2 := by
           rw [hL2, hL3]
           obtain rfl := nil_of (l := Y1) (by omega)
           simp only [mrg_nil_l, mrg_nil_r, List.append_nil, List.nil_append, List.append_assoc]
         subst e2
         have c2 : a < I := by omega
         have c6 : ¬ I < mid := by omega
         have c7 : mid < E := by omega
         have c3 : E < b := by omega
         simp -dsimp -implicitDefEqProofs (disch := first | omega | (simp only [List.length_append, List.length_cons, List.length_nil, List.length_take, List.length_drop]; omega)) only [hs, i5, c4, c5, c2, c6, c7, c3, ↓aPre, aPost, oneW, allOne, retV, retVA, simprocAttr]
         refine call_mut (hs2 (by omega) (by omega)) [] rfl rfl ?_ ?_
         · simp -dsimp -implicitDefEqProofs (disch := first | omega | (simp only [List.length_append, List.length_cons, List.length_nil, List.length_take, List.length_drop]; omega)) only [hs, ↓aPre, aPost, oneW, allOne, retV, retVA, simprocAttr]
         simp -dsimp -implicitDefEqProofs (disch := first | omega | (simp only [List.length_append, List.length_cons, List.length_nil, List.length_take, List.length_drop]; omega)) only [hs, ↓aPre, aPost, oneW, allOne, retV, retVA, simprocAttr]
         refine end_of rfl ?_
         simp -dsimp -implicitDefEqProofs (disch := first | omega | (simp only [List.length_append, List.length_cons, List.length_nil, List.length_take, List.length_drop]; omega)) only [hs, ↓aPre, aPost, oneW, allOne, retV, retVA, simprocAttr])
  · first
      | omega
      | (skip
         have e1 : L2 = L := by
           rw [hL, hL2]
           obtain rfl := nil_of (l := X2) (by omega)
           simp only [mrg_nil_l, mrg_nil_r, List.append_nil, List.nil_append, List.append_assoc]
         subst e1
         have c2 : a < I := by omega
         have c7 : ¬ mid < E := by omega
         by_cases c6 : I < mid
         · first
             | omega
             | (skip
                simp -dsimp -implicitDefEqProofs (disch := first | omega | (simp only [List.length_append, List.length_cons, List.length_nil, List.length_take, List.length_drop]; omega)) only [hs, i5, c4, c2, c6, ↓aPre, aPost, oneW, allOne, retV, retVA, simprocAttr]
                refine call_mut (hs1 (by omega) (by omega)) [] rfl rfl ?_ ?_
                · simp -dsimp -implicitDefEqProofs (disch := first | omega | (simp only [List.length_append, List.length_cons, List.length_nil, List.length_take, List.length_drop]; omega)) only [hs, ↓aPre, aPost, oneW, allOne, retV, retVA, simprocAttr]
                have e3 : L4 = L3 := by
                  rw [hL3, hL4]
                  obtain rfl := nil_of (l := X2) (by omega)
                  simp only [mrg_nil_l, mrg_nil_r, List.append_nil, List.nil_append, List.append_assoc]
                subst e3
                simp -dsimp -implicitDefEqProofs (disch := first | omega | (simp only [List.length_append, List.length_cons, List.length_nil, List.length_take, List.length_drop]; omega)) only [hs, i5, c7, ↓aPre, aPost, oneW, allOne, retV, retVA, simprocAttr]
                refine end_of rfl ?_
                simp -dsimp -implicitDefEqProofs (disch := first | omega | (simp only [List.length_append, List.length_cons, List.length_nil, List.length_take, List.length_drop]; omega)) only [hs, ↓aPre, aPost, oneW, allOne, retV, retVA, simprocAttr])
         · first
             | omega
             | (skip
                have e2 : L3 = L2 := by
                  rw [hL2, hL3]
                  obtain rfl := nil_of (l := Y1) (by omega)
                  simp only [mrg_nil_l, mrg_nil_r, List.append_nil, List.nil_append, List.append_assoc]
                subst e2
                have e3 : L4 = L3 := by
                  rw [hL3, hL4]
                  obtain rfl := nil_of (l := X2) (by omega)
                  simp only [mrg_nil_l, mrg_nil_r, List.append_nil, List.nil_append, List.append_assoc]
                subst e3
                simp -dsimp -implicitDefEqProofs (disch := first | omega | (simp only [List.length_append, List.length_cons, List.length_nil, List.length_take, List.length_drop]; omega)) only [hs, i5, c4, c2, c6, c7, ↓aPre, aPost, oneW, allOne, retV, retVA, simprocAttr]
                refine end_of rfl ?_
                simp -dsimp -implicitDefEqProofs (disch := first | omega | (simp only [List.length_append, List.length_cons, List.length_nil, List.length_take, List.length_drop]; omega)) only [hs, ↓aPre, aPost, oneW, allOne, retV, retVA, simprocAttr]))
theorem sym_m (g : Nat) (hg : CmpF g) : ∀ n, SymN g n
  | 0 => fun P X Y S a m b N h1 _ _ h2 => by omega
  | n + 1 => fun P X Y S a m b N hn hX hY hx1 hy1 ha hm hb hN hl => by
    by_cases ex : X.length = 1
    · obtain ⟨x, rfl⟩ := List.length_eq_one_iff.1 ex
      exact sym_1 g hg P Y S x a m b N hY ha (by rw [hm]; rfl) hb (by rw [hN]; rfl) hl
    by_cases ey : Y.length = 1
    · obtain ⟨y, rfl⟩ := List.length_eq_one_iff.1 ey
      exact sym_r g hg P X S y a m b N hX ha hm (by omega) (by rw [hb]; rfl) (by rw [hN]; rfl) hl
    by_cases hgt : m > (a + b) / 2
    · exact sym_hi g n hg (sym_m g hg n) P X Y S a m b N hn hX hY (by omega) (by omega) ha hm hb hN hl hgt
    · exact sym_lo g n hg (sym_m g hg n) P X Y S a m b N hn hX hY (by omega) (by omega) ha hm hb hN hl hgt
end Go.Proofs.Ytlchakkdgkbabaa
