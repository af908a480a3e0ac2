/- LimitMore: the law's function gives true of all data. No condition but that whole numbers are of their kinds. -/
import Derived.Test.YtlchakkdgkbabaaLOrder
set_option linter.unusedSimpArgs false
set_option linter.unusedVariables false
set_option maxRecDepth 8000
set_option maxHeartbeats 8000000
namespace Go.Proofs.Ytlchakkdgkbabaa
open Go.Eng Go.RowKit
theorem cost_of {of : List Int} {L : Nat} (h1 : 1 ≤ L) (h2 : L ≤ 30) (hl : of.length ≤ 300) (hg : GoodL of) (hc : (sgs of).length ≤ 2 ^ L) : Giv Try.prog 12 [.lst 1 (li .i64 of), .lst 1 (li .i64 (lensL of L))] (retV [.c (.int .i64 (costL of L))]) := by
  have := cost_giv of (lensL of L) (by omega) (by rw [lensL_len]; omega)
  rw [lensL_len, Nat.min_self, (cost_is h1 h2 (by omega) hg hc).1] at this
  exact this
theorem mod15 (y : Int) : ∃ r : Nat, (IntKind.u64.wrap y).tmod 15 = (r : Int) ∧ r < 15 := by
  have e : IntKind.u64.wrap y = y % 18446744073709551616 := by simp [IntKind.wrap, IntKind.signed, IntKind.bits]
  rw [e, Int.tmod_eq_emod_of_nonneg (Int.emod_nonneg _ (by decide))]
  exact ⟨(y % 18446744073709551616 % 15).toNat, by omega, by omega⟩
def dbl (l : List Int) : List Int := tab (fun i => 2 * l.getD i 0) l.length
theorem dbl_sgs (l : List Int) : wts (sgs (dbl l)) = (wts (sgs l)).map (2 * ·) := sgs_sc (by decide) (tab_len _ _) fun i hi => tab_get _ hi
theorem dbl_len (l : List Int) : (sgs (dbl l)).length = (sgs l).length := by
  rw [← wts_len, dbl_sgs, List.length_map, wts_len]
theorem limitMore_giv (y0 : List Int) (h0 : (y0.length * 2 ≤ 140737488351232 ∧ ∀ z ∈ y0, 0 ≤ z ∧ z ≤ 65535)) (y1 : Int) (h1 : (-9223372036854775808 ≤ y1 ∧ y1 ≤ 9223372036854775807)) : Giv Try.prog 6 [.lst 1 (li .u16 y0), .c (.int .i64 y1)] (.d (.c (.bool true))) := by
  show Giv Try.prog 6 [.lst 1 (li .u16 y0), .c (.int .i64 y1)] (retV [.c (.bool true)])
  have hll := li_length (k := .u16) (l := y0)
  refine Giv.of mixed c6 (Nat.le_of_ble_eq_true rfl) ?_
  by_cases hbig : y0.length > 40
  · simp -dsimp -implicitDefEqProofs (disch := first | omega | (simp only [List.length_append, List.length_cons, List.length_nil, List.length_take, List.length_drop]; omega)) only [a6, ↓aPre, aPost, oneW, allOne, retV, retVA, simprocAttr]
    refine call_giv lives_giv ?_
    simp -dsimp -implicitDefEqProofs (disch := first | omega | (simp only [List.length_append, List.length_cons, List.length_nil, List.length_take, List.length_drop]; omega)) only [hll, ↓aPre, aPost, oneW, allOne, retV, retVA, simprocAttr]
    refine call_giv lives_giv ?_
    simp -dsimp -implicitDefEqProofs (disch := first | omega | (simp only [List.length_append, List.length_cons, List.length_nil, List.length_take, List.length_drop]; omega)) only [↓aPre, aPost, oneW, allOne, retV, retVA, simprocAttr]
    exact post_eq rfl
  obtain ⟨r, hr, hr2⟩ := mod15 y1
  have hg : GoodL y0 := fun i hi => by
    have := getD_map_bound h0.2 hi
    omega
  have hdl : (dbl y0).length = y0.length := tab_len _ _
  have hg2 : GoodL (dbl y0) := fun i hi => by
    rw [hdl] at hi
    have := getD_map_bound h0.2 hi
    rw [dbl, tab_get _ hi]
    omega
  have hds := dbl_len y0
  obtain ⟨m, hm⟩ : ∃ m, m = 1 + r := ⟨_, rfl⟩
  have i1 : (1 : Int) + (r : Int) = (m : Int) := by omega
  have i2 : (m : Int) + 1 = ((m + 1 : Nat) : Int) := by omega
  obtain ⟨m2, hm2⟩ : ∃ m2, m2 = m + 1 := ⟨_, rfl⟩
  rw [← hm2] at i2
  simp -dsimp -implicitDefEqProofs (disch := first | omega | (simp only [List.length_append, List.length_cons, List.length_nil, List.length_take, List.length_drop]; omega)) only [a6, ↓aPre, aPost, oneW, allOne, retV, retVA, simprocAttr]
  refine call_giv lives_giv ?_
  simp -dsimp -implicitDefEqProofs (disch := first | omega | (simp only [List.length_append, List.length_cons, List.length_nil, List.length_take, List.length_drop]; omega)) only [hll, hr, i1, ↓aPre, aPost, oneW, allOne, retV, retVA, simprocAttr]
  refine loop_ad [(none, 6, 100, 1), (none, 7, 101, 1)] (fun s => ∃ k, k ≤ y0.length ∧ s.tm 31 = .d (.c (.int .i64 k)) ∧ s.tm 30 = .d (.c (.int .i64 y0.length)) ∧ s.tm 29 = .d (.lst 1 (li .u16 y0)) ∧ s.tm 5 = .d (.c (.int .i64 m)) ∧ s.tm 6 = .sl 100 1 0 k ∧ s.tm 7 = .sl 101 1 0 k ∧ s.hp 100 = some (.row 1 (li .i64 (tab (fun i => y0.getD i 0) k))) ∧ s.hp 101 = some (.row 1 (li .i64 (tab (fun i => 2 * y0.getD i 0) k)))) (fun s => y0.length - (avN (s.tm 31)).toNat) ⟨by simp -dsimp -implicitDefEqProofs (disch := first | omega | (simp only [List.length_append, List.length_cons, List.length_nil, List.length_take, List.length_drop]; omega)) only [↓aPre, aPost, oneW, allOne, retV, retVA, simprocAttr], by decide, by decide, by simp -dsimp -implicitDefEqProofs (disch := first | omega | (simp only [List.length_append, List.length_cons, List.length_nil, List.length_take, List.length_drop]; omega)) only [↓aPre, aPost, oneW, allOne, retV, retVA, simprocAttr], by decide, by decide, ?_⟩ ?_
  · refine ⟨0, Nat.zero_le _, ?_⟩
    simp -dsimp -implicitDefEqProofs (disch := first | omega | (simp only [List.length_append, List.length_cons, List.length_nil, List.length_take, List.length_drop]; omega)) only [tab, ↓aPre, aPost, oneW, allOne, retV, retVA, simprocAttr]
  rintro s ⟨k, hk, hs⟩
  have t1 := tab_len (fun i => y0.getD i 0) k
  have t2 := tab_len (fun i => 2 * y0.getD i 0) k
  by_cases hlt : k < y0.length
  · have hb := getD_map_bound h0.2 hlt
    have e1 := tab_snoc (fun i => y0.getD i 0) (n := k) rfl
    have e2 := tab_snoc (fun i => 2 * y0.getD i 0) (n := k) rfl
    obtain ⟨z, hz⟩ : ∃ z, z = y0.getD k 0 := ⟨_, rfl⟩
    rw [← hz] at hb e1 e2
    simp -dsimp -implicitDefEqProofs (disch := first | omega | (simp only [List.length_append, List.length_cons, List.length_nil, List.length_take, List.length_drop]; omega)) only [hs, hll, ← hz, t1, t2, ↓aPre, aPost, oneW, allOne, retV, retVA, simprocAttr]
    refine round_of ⟨k + 1, by omega, ?_⟩ ?_
    · simp -dsimp -implicitDefEqProofs (disch := first | omega | (simp only [List.length_append, List.length_cons, List.length_nil, List.length_take, List.length_drop]; omega)) only [hs, e1, e2, ↓aPre, aPost, oneW, allOne, retV, retVA, simprocAttr]
    · simp -dsimp -implicitDefEqProofs (disch := first | omega | (simp only [List.length_append, List.length_cons, List.length_nil, List.length_take, List.length_drop]; omega)) only [hs, ↓aPre, aPost, oneW, allOne, retV, retVA, simprocAttr]
      omega
  · obtain rfl : k = y0.length := by omega
    have e1 : tab (fun i => y0.getD i 0) y0.length = y0 := tab_self y0
    rw [e1, show tab (fun i => 2 * y0.getD i 0) y0.length = dbl y0 from rfl] at hs
    have l1 := li_length (k := .i64) (l := y0)
    have l2 := li_length (k := .i64) (l := dbl y0)
    rw [hdl] at l2
    have tk1 : List.take y0.length y0 = y0 := List.take_of_length_le (Nat.le_refl _)
    have tk2 : List.take y0.length (dbl y0) = dbl y0 := List.take_of_length_le (by rw [hdl]; exact Nat.le_refl _)
    by_cases hc : (sgs y0).length ≤ 2 ^ m
    · have hc1 : (sgs y0).length ≤ 2 ^ m2 := Nat.le_trans hc (Nat.pow_le_pow_right (by decide) (by omega))
      have hc2 : (sgs (dbl y0)).length ≤ 2 ^ m := by rw [hds]; exact hc
      have g1 := lens_giv y0 m (by omega) (by omega) (by omega) hg hc
      have g2 := lens_giv y0 m2 (by omega) (by omega) (by omega) hg hc1
      have g3 := lens_giv (dbl y0) m (by omega) (by omega) (by omega) hg2 hc2
      have k1 := cost_of (by omega) (by omega) (by omega) hg hc1
      have k2 := cost_of (by omega) (by omega) (by omega) hg hc
      have k3 := cost_of (by omega) (by omega) (by omega) hg2 hc2
      have b1 := (cost_is (L := m) (by omega) (by omega) (by omega) hg hc).2
      have b2 := cost_anti hg hc
      rw [← hm2] at b2
      have b3 := cost_sc (L := m) (by decide) hg hg2 (dbl_sgs y0)
      have i3 : ((y0.length : Nat) : Int) ≤ 40 := by omega
      obtain ⟨u, hu⟩ : ∃ u, u = costL y0 m := ⟨_, rfl⟩
      obtain ⟨v, hv⟩ : ∃ v, v = costL y0 m2 := ⟨_, rfl⟩
      obtain ⟨w, hw⟩ : ∃ w, w = costL (dbl y0) m := ⟨_, rfl⟩
      rw [← hu] at k2 b1 b2 b3
      rw [← hv] at k1 b2
      rw [← hw] at k3 b3
      have b4 : -9223372036854775808 ≤ 2 * u ∧ 2 * u ≤ 9223372036854775807 := by omega
      simp -dsimp -implicitDefEqProofs (disch := first | omega | (simp only [List.length_append, List.length_cons, List.length_nil, List.length_take, List.length_drop]; omega)) only [hs, hll, l1, tk1, ↓aPre, aPost, oneW, allOne, retV, retVA, simprocAttr]
      refine call_giv g1 ?_
      simp -dsimp -implicitDefEqProofs (disch := first | omega | (simp only [List.length_append, List.length_cons, List.length_nil, List.length_take, List.length_drop]; omega)) only [hs, l1, l2, tk1, tk2, i2, ↓aPre, aPost, oneW, allOne, retV, retVA, simprocAttr]
      refine call_giv g2 ?_
      simp -dsimp -implicitDefEqProofs (disch := first | omega | (simp only [List.length_append, List.length_cons, List.length_nil, List.length_take, List.length_drop]; omega)) only [hs, l1, l2, tk1, tk2, i2, ↓aPre, aPost, oneW, allOne, retV, retVA, simprocAttr]
      refine call_giv g3 ?_
      simp -dsimp -implicitDefEqProofs (disch := first | omega | (simp only [List.length_append, List.length_cons, List.length_nil, List.length_take, List.length_drop]; omega)) only [hs, l1, l2, tk1, tk2, ↓aPre, aPost, oneW, allOne, retV, retVA, simprocAttr]
      refine call_giv k1 ?_
      simp -dsimp -implicitDefEqProofs (disch := first | omega | (simp only [List.length_append, List.length_cons, List.length_nil, List.length_take, List.length_drop]; omega)) only [hs, l1, l2, tk1, tk2, ↓aPre, aPost, oneW, allOne, retV, retVA, simprocAttr]
      refine call_giv k2 ?_
      simp -dsimp -implicitDefEqProofs (disch := first | omega | (simp only [List.length_append, List.length_cons, List.length_nil, List.length_take, List.length_drop]; omega)) only [hs, l1, l2, tk1, tk2, b2, ↓aPre, aPost, oneW, allOne, retV, retVA, simprocAttr]
      refine call_giv k3 ?_
      simp -dsimp -implicitDefEqProofs (disch := first | omega | (simp only [List.length_append, List.length_cons, List.length_nil, List.length_take, List.length_drop]; omega)) only [hs, l1, l2, tk1, tk2, ↓aPre, aPost, oneW, allOne, retV, retVA, simprocAttr]
      refine call_giv k2 ?_
      simp -dsimp -implicitDefEqProofs (disch := first | omega | (simp only [List.length_append, List.length_cons, List.length_nil, List.length_take, List.length_drop]; omega)) only [hs, b3, ↓aPre, aPost, oneW, allOne, retV, retVA, simprocAttr]
      exact post_eq rfl
    · have g1 := lens_long y0 m (by omega) (by omega) (by omega) hg hc
      have g3 := lens_long (dbl y0) m (by omega) (by omega) (by omega) hg2 (by rw [hds]; exact hc)
      have key : ∃ d e, Giv Try.prog 8 [.lst 1 (li .i64 y0), .c (.int .i64 m2)] (retV [d, .c (.int .i64 e)]) ∧ (e = 0 ∨ e = 5) := by
        by_cases hc1 : (sgs y0).length ≤ 2 ^ m2
        · exact ⟨_, _, lens_giv y0 m2 (by omega) (by omega) (by omega) hg hc1, .inl rfl⟩
        · exact ⟨_, _, lens_long y0 m2 (by omega) (by omega) (by omega) hg hc1, .inr rfl⟩
      obtain ⟨d, e, g2, he⟩ := key
      simp -dsimp -implicitDefEqProofs (disch := first | omega | (simp only [List.length_append, List.length_cons, List.length_nil, List.length_take, List.length_drop]; omega)) only [hs, hll, l1, tk1, ↓aPre, aPost, oneW, allOne, retV, retVA, simprocAttr]
      refine call_giv g1 ?_
      simp -dsimp -implicitDefEqProofs (disch := first | omega | (simp only [List.length_append, List.length_cons, List.length_nil, List.length_take, List.length_drop]; omega)) only [hs, l1, l2, tk1, tk2, i2, ↓aPre, aPost, oneW, allOne, retV, retVA, simprocAttr]
      refine call_giv g2 ?_
      simp -dsimp -implicitDefEqProofs (disch := first | omega | (simp only [List.length_append, List.length_cons, List.length_nil, List.length_take, List.length_drop]; omega)) only [hs, l1, l2, tk1, tk2, i2, ↓aPre, aPost, oneW, allOne, retV, retVA, simprocAttr]
      refine call_giv g3 ?_
      rcases he with rfl | rfl
      · simp -dsimp -implicitDefEqProofs (disch := first | omega | (simp only [List.length_append, List.length_cons, List.length_nil, List.length_take, List.length_drop]; omega)) only [hs, l1, l2, tk1, tk2, ↓aPre, aPost, oneW, allOne, retV, retVA, simprocAttr]
        exact post_eq rfl
      · simp -dsimp -implicitDefEqProofs (disch := first | omega | (simp only [List.length_append, List.length_cons, List.length_nil, List.length_take, List.length_drop]; omega)) only [hs, l1, l2, tk1, tk2, ↓aPre, aPost, oneW, allOne, retV, retVA, simprocAttr]
        exact post_eq rfl
end Go.Proofs.Ytlchakkdgkbabaa
