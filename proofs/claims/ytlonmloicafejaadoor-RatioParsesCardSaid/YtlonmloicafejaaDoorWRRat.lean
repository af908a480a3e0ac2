/- A fraction in the least numbers, by the reference. No condition but what each says. -/
import Derived.Test.YtlonmloicafejaaDoorWRat
set_option linter.unusedSimpArgs false
set_option linter.unusedVariables false
set_option maxRecDepth 8000
set_option maxHeartbeats 4000000
namespace Go.Proofs.YtlonmloicafejaaDoor
open Go.Eng Go.RowKit
theorem rreduce_giv (n d : Nat) (hn : n < 4294967296) (hd : d < 4294967296) : Giv Tryd.prog 12 [.c (.int .i64 n), .c (.int .i64 d)] (retV [.c (.int .i64 (redS n d).1), .c (.int .i64 (redS n d).2)]) := by
  obtain ⟨l1, l2⟩ := red_le n d
  unfold redS at l1 l2 ⊢
  obtain ⟨k, hk⟩ : ∃ k, k = Nat.gcd n d := ⟨_, rfl⟩
  rw [← hk] at l1 l2 ⊢
  refine Giv.of mixed c12 (Nat.le_of_ble_eq_true rfl) ?_
  simp -dsimp -implicitDefEqProofs (disch := first | omega | (simp only [List.length_append, List.length_cons, List.length_nil, List.length_take, List.length_drop]; omega)) only [a12, ↓aPre, aPost, oneW, allOne, retV, retVA, simprocAttr]
  refine loop_of (fun s => ∃ x y : Nat, x < 4294967296 ∧ y < 4294967296 ∧ k = Nat.gcd x y ∧ s.tm 6 = .d (.c (.int .i64 x)) ∧ s.tm 7 = .d (.c (.int .i64 y)) ∧ s.tm 0 = .d (.c (.int .i64 n)) ∧ s.tm 1 = .d (.c (.int .i64 d))) (fun s => (avN (s.tm 6)).toNat + (avN (s.tm 7)).toNat) ?_ ?_
  · refine ⟨n, d, hn, hd, hk, ?_⟩
    simp -dsimp -implicitDefEqProofs (disch := first | omega | (simp only [List.length_append, List.length_cons, List.length_nil, List.length_take, List.length_drop]; omega)) only [↓aPre, aPost, oneW, allOne, retV, retVA, simprocAttr]
  rintro s ⟨x, y, hx, hy, hxy, hs⟩
  have fin : x = 0 ∨ y = 0 → k = x + y := fun h => by
    rcases h with rfl | rfl
    · rw [hxy, Nat.gcd_zero_left, Nat.zero_add]
    · rw [hxy, Nat.gcd_zero_right, Nat.add_zero]
  by_cases hx0 : x = 0
  · have hkx := fin (.inl hx0)
    have i1 : (x : Int) + (y : Int) = (k : Int) := by omega
    have hxI : (x : Int) = 0 := by omega
    by_cases h : k = 0
    · rw [if_pos h]
      have hkI : (k : Int) = 0 := by omega
      simp -dsimp -implicitDefEqProofs (disch := first | omega | (simp only [List.length_append, List.length_cons, List.length_nil, List.length_take, List.length_drop]; omega)) only [hs, hx0, Int.natCast_zero, show (y : Int) = 0 by omega, ↓aPre, aPost, oneW, allOne, retV, retVA, simprocAttr]
      exact post_eq rfl
    · rw [if_neg h] at l1 l2 ⊢
      have h0 : ¬ (k : Int) = 0 := by omega
      have hyk : (y : Int) = (k : Int) := by omega
      have e1 : (n : Int).tdiv (k : Int) = ((n / k : Nat) : Int) := by rw [Int.tdiv_eq_ediv_of_nonneg (by omega)]; rfl
      have e2 : (d : Int).tdiv (k : Int) = ((d / k : Nat) : Int) := by rw [Int.tdiv_eq_ediv_of_nonneg (by omega)]; rfl
      obtain ⟨u, hu⟩ : ∃ u, u = n / k := ⟨_, rfl⟩
      obtain ⟨v, hv⟩ : ∃ v, v = d / k := ⟨_, rfl⟩
      rw [← hu] at e1 l1 ⊢
      rw [← hv] at e2 l2 ⊢
      simp -dsimp -implicitDefEqProofs (disch := first | omega | (simp only [List.length_append, List.length_cons, List.length_nil, List.length_take, List.length_drop]; omega)) only [hs, hx0, Int.natCast_zero, hyk, h0, e1, e2, ↓aPre, aPost, oneW, allOne, retV, retVA, simprocAttr]
      exact post_eq rfl
  by_cases hy0 : y = 0
  · have hkx := fin (.inr hy0)
    have h : ¬ k = 0 := by omega
    rw [if_neg h] at l1 l2 ⊢
    have h0 : ¬ (k : Int) = 0 := by omega
    have hxk : (x : Int) = (k : Int) := by omega
    have e1 : (n : Int).tdiv (k : Int) = ((n / k : Nat) : Int) := by rw [Int.tdiv_eq_ediv_of_nonneg (by omega)]; rfl
    have e2 : (d : Int).tdiv (k : Int) = ((d / k : Nat) : Int) := by rw [Int.tdiv_eq_ediv_of_nonneg (by omega)]; rfl
    obtain ⟨u, hu⟩ : ∃ u, u = n / k := ⟨_, rfl⟩
    obtain ⟨v, hv⟩ : ∃ v, v = d / k := ⟨_, rfl⟩
    rw [← hu] at e1 l1 ⊢
    rw [← hv] at e2 l2 ⊢
    simp -dsimp -implicitDefEqProofs (disch := first | omega | (simp only [List.length_append, List.length_cons, List.length_nil, List.length_take, List.length_drop]; omega)) only [hs, hy0, Int.natCast_zero, hxk, h0, e1, e2, ↓aPre, aPost, oneW, allOne, retV, retVA, simprocAttr]
    exact post_eq rfl
  have hxI : ¬ (x : Int) = 0 := by omega
  have hyI : ¬ (y : Int) = 0 := by omega
  by_cases hge : x ≥ y
  · have hm : (x : Int).tmod (y : Int) = ((x % y : Nat) : Int) := by rw [Int.tmod_eq_emod_of_nonneg (by omega)]; rfl
    have hl := Nat.mod_lt x (show 0 < y by omega)
    obtain ⟨z, hz⟩ : ∃ z, z = x % y := ⟨_, rfl⟩
    have hgz : k = Nat.gcd z y := by rw [hxy, hz, Nat.gcd_comm x y, Nat.gcd_rec y x]
    rw [← hz] at hm hl
    simp -dsimp -implicitDefEqProofs (disch := first | omega | (simp only [List.length_append, List.length_cons, List.length_nil, List.length_take, List.length_drop]; omega)) only [hs, hxI, hyI, hm, ↓aPre, aPost, oneW, allOne, retV, retVA, simprocAttr]
    refine round_of ⟨z, y, by omega, hy, hgz, ?_⟩ ?_
    · simp -dsimp -implicitDefEqProofs (disch := first | omega | (simp only [List.length_append, List.length_cons, List.length_nil, List.length_take, List.length_drop]; omega)) only [hs, ↓aPre, aPost, oneW, allOne, retV, retVA, simprocAttr]
    · simp -dsimp -implicitDefEqProofs (disch := first | omega | (simp only [List.length_append, List.length_cons, List.length_nil, List.length_take, List.length_drop]; omega)) only [hs, ↓aPre, aPost, oneW, allOne, retV, retVA, simprocAttr]
      omega
  · have hm : (y : Int).tmod (x : Int) = ((y % x : Nat) : Int) := by rw [Int.tmod_eq_emod_of_nonneg (by omega)]; rfl
    have hl := Nat.mod_lt y (show 0 < x by omega)
    obtain ⟨z, hz⟩ : ∃ z, z = y % x := ⟨_, rfl⟩
    have hgz : k = Nat.gcd x z := by rw [hxy, hz, Nat.gcd_rec x y, Nat.gcd_comm]
    rw [← hz] at hm hl
    simp -dsimp -implicitDefEqProofs (disch := first | omega | (simp only [List.length_append, List.length_cons, List.length_nil, List.length_take, List.length_drop]; omega)) only [hs, hxI, hyI, hm, ↓aPre, aPost, oneW, allOne, retV, retVA, simprocAttr]
    refine round_of ⟨x, z, hx, by omega, hgz, ?_⟩ ?_
    · simp -dsimp -implicitDefEqProofs (disch := first | omega | (simp only [List.length_append, List.length_cons, List.length_nil, List.length_take, List.length_drop]; omega)) only [hs, ↓aPre, aPost, oneW, allOne, retV, retVA, simprocAttr]
    · simp -dsimp -implicitDefEqProofs (disch := first | omega | (simp only [List.length_append, List.length_cons, List.length_nil, List.length_take, List.length_drop]; omega)) only [hs, ↓aPre, aPost, oneW, allOne, retV, retVA, simprocAttr]
      omega
end Go.Proofs.YtlonmloicafejaaDoor
