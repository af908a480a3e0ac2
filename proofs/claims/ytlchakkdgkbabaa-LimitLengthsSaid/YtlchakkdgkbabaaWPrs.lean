/- Each two parcels as one; two rows in order as one. No condition but what each says. -/
import Derived.Test.YtlchakkdgkbabaaWCat
set_option linter.unusedSimpArgs false
set_option linter.unusedVariables false
set_option maxRecDepth 8000
set_option maxHeartbeats 8000000
namespace Go.Proofs.Ytlchakkdgkbabaa
open Go.Eng Go.RowKit
theorem prs_app : ∀ {A : List Pc} (k : Nat) (B : List Pc), A.length = 2 * k → prs (A ++ B) = prs A ++ prs B
  | [], k, B, h => rfl
  | [_], k, B, h => by simp at h; omega
  | x :: y :: A, 0, B, h => by simp at h
  | x :: y :: A, k + 1, B, h => by
    rw [List.cons_append, List.cons_append, prs_cons, prs_cons, prs_app k B (by simp at h; omega), List.cons_append]
theorem pairs_giv (l : List Pc) (hl : l.length ≤ 100000) (hw : ∀ p ∈ l, 0 ≤ p.1 ∧ p.1 ≤ 1152921504606846976 ∧ p.2.length ≤ 100000) : Giv Try.prog 18 [.lst 2 (l.map pcD)] (retV [.lst 2 ((prs l).map pcD)]) := by
  refine Giv.of mixed c18 (Nat.le_of_ble_eq_true rfl) ?_
  have hll := pcs_len l
  simp -dsimp -implicitDefEqProofs (disch := first | omega | (simp only [List.length_append, List.length_cons, List.length_nil, List.length_take, List.length_drop]; omega)) only [a18, ↓aPre, aPost, oneW, allOne, retV, retVA, simprocAttr]
  refine loop_nil 3 100 2 (fun s => ∃ (A B : List Pc) (k : Nat), l = A ++ B ∧ A.length = 2 * k ∧ s.tm 0 = .d (.lst 2 (l.map pcD)) ∧ s.tm 3 = .sl 100 2 0 k ∧ s.tm 4 = .d (.c (.int .i64 (2 * k : Nat))) ∧ s.hp 100 = some (.row 2 ((prs A).map pcD))) (fun s => l.length - (avN (s.tm 4)).toNat) ?_ (by decide) ?_ ?_
  · simp -dsimp -implicitDefEqProofs (disch := first | omega | (simp only [List.length_append, List.length_cons, List.length_nil, List.length_take, List.length_drop]; omega)) only [↓aPre, aPost, oneW, allOne, retV, retVA, simprocAttr]
  · refine ⟨[], l, 0, rfl, rfl, ?_⟩
    simp -dsimp -implicitDefEqProofs (disch := first | omega | (simp only [List.length_append, List.length_cons, List.length_nil, List.length_take, List.length_drop]; omega)) only [↓aPre, aPost, oneW, allOne, retV, retVA, simprocAttr]
    rfl
  rintro s ⟨A, B, k, hAB, hk, hs⟩
  have hlen : l.length = 2 * k + B.length := by rw [hAB, List.length_append, hk]
  obtain ⟨k2, hk2⟩ : ∃ k2, k2 = 2 * k := ⟨_, rfl⟩
  rw [← hk2] at hs hk hlen
  have hpl : ((prs A).map pcD).length = k := by rw [pcs_len, prs_len]; omega
  by_cases hlt : k2 + 1 < l.length
  · obtain ⟨x, B1, rfl⟩ : ∃ x B1, B = x :: B1 := by
      cases B with
      | nil => simp at hlen; omega
      | cons x B1 => exact ⟨x, B1, rfl⟩
    obtain ⟨y, B2, rfl⟩ : ∃ y B2, B1 = y :: B2 := by
      cases B1 with
      | nil => simp at hlen; omega
      | cons y B2 => exact ⟨y, B2, rfl⟩
    simp only [List.length_cons] at hlen
    have gx := get_mid (L := l) (A := A) (B := y :: B2) (x := x) (i := k2) hAB hk.symm
    have gy := get_mid (L := l) (A := A ++ [x]) (B := B2) (x := y) (i := k2 + 1) (by rw [hAB]; simp) (by rw [List.length_append, hk]; rfl)
    obtain ⟨wx1, wx2, wx3⟩ := hw x (by rw [hAB]; simp)
    obtain ⟨wy1, wy2, wy3⟩ := hw y (by rw [hAB]; simp)
    have hc := concat_giv [li .i64 x.2, li .i64 y.2] (by simp) (by simp [li]; omega)
    rw [show [li .i64 x.2, li .i64 y.2].flatten = li .i64 (x.2 ++ y.2) by simp [li]] at hc
    have i1 : ((k2 : Int) + 1).toNat = k2 + 1 := by omega
    have i2 : (k2 : Int) + 1 < l.length := by omega
    have hp : (prs (A ++ [x, y])).map pcD = (prs A).map pcD ++ [.agg [.c (.int .i64 (x.1 + y.1)), .lst 1 (li .i64 (x.2 ++ y.2))]] := by
      rw [prs_app k [x, y] (by omega), List.map_append]
      rfl
    obtain ⟨k3, hk3⟩ : ∃ k3, k3 = 2 * (k + 1) := ⟨_, rfl⟩
    have i3 : (k2 : Int) + 2 = (k3 : Int) := by omega
    simp -dsimp -implicitDefEqProofs (disch := first | omega | (simp only [List.length_append, List.length_cons, List.length_nil, List.length_take, List.length_drop]; omega)) only [hs, hll, i1, i2, gx, gy, ↓aPre, aPost, oneW, allOne, retV, retVA, simprocAttr]
    refine call_giv hc ?_
    simp -dsimp -implicitDefEqProofs (disch := first | omega | (simp only [List.length_append, List.length_cons, List.length_nil, List.length_take, List.length_drop]; omega)) only [hs, hll, i1, i2, i3, gx, gy, hpl, ↓aPre, aPost, oneW, allOne, retV, retVA, simprocAttr]
    refine round_of ⟨A ++ [x, y], B2, k + 1, by rw [hAB]; simp, by rw [List.length_append, hk]; simp; omega, ?_⟩ ?_
    · rw [← hk3]
      simp -dsimp -implicitDefEqProofs (disch := first | omega | (simp only [List.length_append, List.length_cons, List.length_nil, List.length_take, List.length_drop]; omega)) only [hs, hp, ↓aPre, aPost, oneW, allOne, retV, retVA, simprocAttr]
    · simp -dsimp -implicitDefEqProofs (disch := first | omega | (simp only [List.length_append, List.length_cons, List.length_nil, List.length_take, List.length_drop]; omega)) only [hs, ↓aPre, aPost, oneW, allOne, retV, retVA, simprocAttr]
      omega
  · have e : prs B = [] := by
      match B, hlen with
      | [], _ => rfl
      | [_], _ => rfl
      | x :: y :: B2, hlen => simp at hlen; omega
    have hp : prs l = prs A := by rw [hAB, prs_app k B (by omega), e, List.append_nil]
    rw [hp]
    simp -dsimp -implicitDefEqProofs (disch := first | omega | (simp only [List.length_append, List.length_cons, List.length_nil, List.length_take, List.length_drop]; omega)) only [hs, hll, hpl, ↓aPre, aPost, oneW, allOne, retV, retVA, simprocAttr]
    exact post_eq rfl
theorem merge_giv (a b : List Pc) (ha : Srt a) (hb : Srt b) (hl : a.length + b.length ≤ 1000000) : Giv Try.prog 17 [.lst 2 (a.map pcD), .lst 2 (b.map pcD)] (retV [.lst 2 ((mrg a b).map pcD)]) := by
  refine Giv.of mixed c17 (Nat.le_of_ble_eq_true rfl) ?_
  have hc := concat_o [a.map pcD, b.map pcD] (by simp) (by simp; omega)
  rw [show [a.map pcD, b.map pcD].flatten = (a ++ b).map pcD by simp, pcs_len] at hc
  have hso := sort_m 23 cmp23 (a ++ b) (a ++ b).length rfl (by rw [List.length_append]; omega)
  rw [stab_two ha hb] at hso
  obtain ⟨L, hL⟩ : ∃ L, L = a ++ b := ⟨_, rfl⟩
  rw [← hL] at hc hso
  obtain ⟨n, hn⟩ : ∃ n, n = L.length := ⟨_, rfl⟩
  rw [← hn] at hc hso
  have hml : (mrg a b).length = n := by rw [mrg_len, hn, hL, List.length_append]
  simp -dsimp -implicitDefEqProofs (disch := first | omega | (simp only [List.length_append, List.length_cons, List.length_nil, List.length_take, List.length_drop]; omega)) only [a17, ↓aPre, aPost, oneW, allOne, retV, retVA, simprocAttr]
  refine call_own hc ?_
  simp -dsimp -implicitDefEqProofs (disch := first | omega | (simp only [List.length_append, List.length_cons, List.length_nil, List.length_take, List.length_drop]; omega)) only [↓aPre, aPost, oneW, allOne, retV, retVA, simprocAttr]
  refine call_mut hso [(2000000, 9)] rfl rfl ?_ ?_
  · simp -dsimp -implicitDefEqProofs (disch := first | omega | (simp only [List.length_append, List.length_cons, List.length_nil, List.length_take, List.length_drop]; omega)) only [↓aPre, aPost, oneW, allOne, retV, retVA, simprocAttr]
  simp -dsimp -implicitDefEqProofs (disch := first | omega | (simp only [List.length_append, List.length_cons, List.length_nil, List.length_take, List.length_drop]; omega)) only [pcs_len, hml, ↓aPre, aPost, oneW, allOne, retV, retVA, simprocAttr]
  exact post_eq (by rw [List.take_of_length_le (by rw [pcs_len, hml]; exact Nat.le_refl _)])
end Go.Proofs.Ytlchakkdgkbabaa
