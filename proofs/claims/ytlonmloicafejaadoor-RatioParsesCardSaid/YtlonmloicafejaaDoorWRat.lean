/- A fraction in the least numbers; which of two is more. No condition but what each says. -/
import Derived.Test.YtlonmloicafejaaDoorWGcd
set_option linter.unusedSimpArgs false
set_option linter.unusedVariables false
set_option maxRecDepth 8000
set_option maxHeartbeats 4000000
namespace Go.Proofs.YtlonmloicafejaaDoor
open Go.Eng Go.RowKit
def rD (p : Nat × Nat) : D := .agg [.c (.int .u32 p.1), .c (.int .u32 p.2)]
theorem reduce_giv (n d : Nat) (hn : n < 4294967296) (hd : d < 4294967296) : Giv Tryd.prog 11 [.agg [.c (.int .u32 n), .c (.int .u32 d)]] (retV [.agg [.c (.int .u32 (redS n d).1), .c (.int .u32 (redS n d).2)]]) := by
  have g := gcd_giv n d hn hd
  obtain ⟨l1, l2⟩ := red_le n d
  unfold redS at l1 l2 ⊢
  obtain ⟨k, hk⟩ : ∃ k, k = Nat.gcd n d := ⟨_, rfl⟩
  rw [← hk] at g l1 l2 ⊢
  refine Giv.of mixed c11 (Nat.le_of_ble_eq_true rfl) ?_
  by_cases h : k = 0
  · subst h
    rw [if_pos rfl]
    rw [Int.natCast_zero] at g
    simp -dsimp -implicitDefEqProofs (disch := first | omega | (simp only [List.length_append, List.length_cons, List.length_nil, List.length_take, List.length_drop]; omega)) only [a11, ↓aPre, aPost, oneW, allOne, retV, retVA, simprocAttr]
    refine call_giv g ?_
    simp -dsimp -implicitDefEqProofs (disch := first | omega | (simp only [List.length_append, List.length_cons, List.length_nil, List.length_take, List.length_drop]; omega)) only [↓aPre, aPost, oneW, allOne, retV, retVA, simprocAttr]
    exact post_eq rfl
  · rw [if_neg h] at l1 l2 ⊢
    have h0 : ¬ (k : Int) = 0 := by omega
    have e1 : (n : Int).tdiv (k : Int) = ((n / k : Nat) : Int) := by rw [Int.tdiv_eq_ediv_of_nonneg (by omega)]; rfl
    have e2 : (d : Int).tdiv (k : Int) = ((d / k : Nat) : Int) := by rw [Int.tdiv_eq_ediv_of_nonneg (by omega)]; rfl
    obtain ⟨x, hx⟩ : ∃ x, x = n / k := ⟨_, rfl⟩
    obtain ⟨y, hy⟩ : ∃ y, y = d / k := ⟨_, rfl⟩
    rw [← hx] at e1 l1 ⊢
    rw [← hy] at e2 l2 ⊢
    simp -dsimp -implicitDefEqProofs (disch := first | omega | (simp only [List.length_append, List.length_cons, List.length_nil, List.length_take, List.length_drop]; omega)) only [a11, ↓aPre, aPost, oneW, allOne, retV, retVA, simprocAttr]
    refine call_giv g ?_
    simp -dsimp -implicitDefEqProofs (disch := first | omega | (simp only [List.length_append, List.length_cons, List.length_nil, List.length_take, List.length_drop]; omega)) only [h0, e1, e2, ↓aPre, aPost, oneW, allOne, retV, retVA, simprocAttr]
    exact post_eq rfl
def cmpS (n d m e : Nat) : Int × Int := if d = 0 ∨ e = 0 then (0, 1) else if n * e < m * d then (-1, 0) else if m * d < n * e then (1, 0) else (0, 0)
theorem mul_32 {a b : Nat} (ha : a < 4294967296) (hb : b < 4294967296) : a * b < 18446744073709551616 := by
  have : a * b ≤ 4294967295 * 4294967295 := Nat.mul_le_mul (by omega) (by omega)
  omega
theorem compare_giv (n d m e : Nat) (hn : n < 4294967296) (hd : d < 4294967296) (hm : m < 4294967296) (he : e < 4294967296) : Giv Tryd.prog 17 [.agg [.c (.int .u32 n), .c (.int .u32 d)], .agg [.c (.int .u32 m), .c (.int .u32 e)]] (retV [.c (.int .i64 (cmpS n d m e).1), .c (.int .i64 (cmpS n d m e).2)]) := by
  refine Giv.of mixed c17 (Nat.le_of_ble_eq_true rfl) ?_
  unfold cmpS
  by_cases h1 : d = 0
  · subst h1
    rw [if_pos (.inl rfl)]
    simp -dsimp -implicitDefEqProofs (disch := first | omega | (simp only [List.length_append, List.length_cons, List.length_nil, List.length_take, List.length_drop]; omega)) only [a17, ↓aPre, aPost, oneW, allOne, retV, retVA, simprocAttr]
    exact post_eq rfl
  by_cases h2 : e = 0
  · subst h2
    rw [if_pos (.inr rfl)]
    have h1I : ¬ (d : Int) = 0 := by omega
    simp -dsimp -implicitDefEqProofs (disch := first | omega | (simp only [List.length_append, List.length_cons, List.length_nil, List.length_take, List.length_drop]; omega)) only [a17, h1I, ↓aPre, aPost, oneW, allOne, retV, retVA, simprocAttr]
    exact post_eq rfl
  rw [if_neg (fun c => c.elim h1 h2)]
  have h1I : ¬ (d : Int) = 0 := by omega
  have h2I : ¬ (e : Int) = 0 := by omega
  have b1 := mul_32 hn he
  have b2 := mul_32 hm hd
  have e1 : (n : Int) * (e : Int) = ((n * e : Nat) : Int) := (Int.natCast_mul n e).symm
  have e2 : (m : Int) * (d : Int) = ((m * d : Nat) : Int) := (Int.natCast_mul m d).symm
  obtain ⟨x, hx⟩ : ∃ x, x = n * e := ⟨_, rfl⟩
  obtain ⟨y, hy⟩ : ∃ y, y = m * d := ⟨_, rfl⟩
  rw [← hx] at e1 b1 ⊢
  rw [← hy] at e2 b2 ⊢
  by_cases c1 : x < y
  · rw [if_pos c1]
    simp -dsimp -implicitDefEqProofs (disch := first | omega | (simp only [List.length_append, List.length_cons, List.length_nil, List.length_take, List.length_drop]; omega)) only [a17, h1I, h2I, e1, e2, ↓aPre, aPost, oneW, allOne, retV, retVA, simprocAttr]
    exact post_eq rfl
  by_cases c2 : y < x
  · rw [if_neg c1, if_pos c2]
    simp -dsimp -implicitDefEqProofs (disch := first | omega | (simp only [List.length_append, List.length_cons, List.length_nil, List.length_take, List.length_drop]; omega)) only [a17, h1I, h2I, e1, e2, ↓aPre, aPost, oneW, allOne, retV, retVA, simprocAttr]
    exact post_eq rfl
  · rw [if_neg c1, if_neg c2]
    simp -dsimp -implicitDefEqProofs (disch := first | omega | (simp only [List.length_append, List.length_cons, List.length_nil, List.length_take, List.length_drop]; omega)) only [a17, h1I, h2I, e1, e2, ↓aPre, aPost, oneW, allOne, retV, retVA, simprocAttr]
    exact post_eq rfl
end Go.Proofs.YtlonmloicafejaaDoor
