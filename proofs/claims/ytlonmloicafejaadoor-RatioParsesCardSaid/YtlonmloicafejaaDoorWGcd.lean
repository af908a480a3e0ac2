/- The greatest number that divides two. No condition but what each says. -/
import Derived.Test.YtlonmloicafejaaDoorLGcd
import Derived.Test.YtlonmloicafejaaDoorWF
set_option linter.unusedSimpArgs false
set_option linter.unusedVariables false
set_option maxRecDepth 8000
set_option maxHeartbeats 4000000
namespace Go.Proofs.YtlonmloicafejaaDoor
open Go.Eng Go.RowKit
theorem gcd_giv (a b : Nat) (ha : a < 4294967296) (hb : b < 4294967296) : Giv Tryd.prog 25 [.c (.int .u32 a), .c (.int .u32 b)] (retV [.c (.int .u32 (Nat.gcd a b : Nat))]) := by
  refine Giv.of mixed c25 (Nat.le_of_ble_eq_true rfl) ?_
  obtain ⟨g, hg⟩ : ∃ g, g = Nat.gcd a b := ⟨_, rfl⟩
  rw [← hg]
  simp -dsimp -implicitDefEqProofs (disch := first | omega | (simp only [List.length_append, List.length_cons, List.length_nil, List.length_take, List.length_drop]; omega)) only [a25, ↓aPre, aPost, oneW, allOne, retV, retVA, simprocAttr]
  refine loop_of (fun s => ∃ x y : Nat, x < 4294967296 ∧ y < 4294967296 ∧ g = Nat.gcd x y ∧ s.tm 0 = .d (.c (.int .u32 x)) ∧ s.tm 1 = .d (.c (.int .u32 y))) (fun s => (avN (s.tm 1)).toNat) ?_ ?_
  · refine ⟨a, b, ha, hb, hg, ?_⟩
    simp -dsimp -implicitDefEqProofs (disch := first | omega | (simp only [List.length_append, List.length_cons, List.length_nil, List.length_take, List.length_drop]; omega)) only [↓aPre, aPost, oneW, allOne, retV, retVA, simprocAttr]
  rintro s ⟨x, y, hx, hy, hgx, hs⟩
  by_cases h : y = 0
  · subst h
    rw [Nat.gcd_zero_right] at hgx
    subst hgx
    simp -dsimp -implicitDefEqProofs (disch := first | omega | (simp only [List.length_append, List.length_cons, List.length_nil, List.length_take, List.length_drop]; omega)) only [hs, ↓aPre, aPost, oneW, allOne, retV, retVA, simprocAttr]
    exact post_eq rfl
  · have hy0 : ¬ (y : Int) = 0 := by omega
    have hm : (x : Int).tmod (y : Int) = ((x % y : Nat) : Int) := by rw [Int.tmod_eq_emod_of_nonneg (by omega)]; rfl
    have hl := Nat.mod_lt x (show 0 < y by omega)
    obtain ⟨z, hz⟩ : ∃ z, z = x % y := ⟨_, rfl⟩
    have hgz : g = Nat.gcd y z := by rw [hgx, hz, Nat.gcd_comm x y, Nat.gcd_rec y x, Nat.gcd_comm]
    rw [← hz] at hm hl
    simp -dsimp -implicitDefEqProofs (disch := first | omega | (simp only [List.length_append, List.length_cons, List.length_nil, List.length_take, List.length_drop]; omega)) only [hs, hy0, hm, ↓aPre, aPost, oneW, allOne, retV, retVA, simprocAttr]
    refine round_of ⟨y, z, hy, by omega, hgz, ?_⟩ ?_
    · simp -dsimp -implicitDefEqProofs (disch := first | omega | (simp only [List.length_append, List.length_cons, List.length_nil, List.length_take, List.length_drop]; omega)) only [hs, ↓aPre, aPost, oneW, allOne, retV, retVA, simprocAttr]
    · simp -dsimp -implicitDefEqProofs (disch := first | omega | (simp only [List.length_append, List.length_cons, List.length_nil, List.length_take, List.length_drop]; omega)) only [hs, ↓aPre, aPost, oneW, allOne, retV, retVA, simprocAttr]
      omega
end Go.Proofs.YtlonmloicafejaaDoor
