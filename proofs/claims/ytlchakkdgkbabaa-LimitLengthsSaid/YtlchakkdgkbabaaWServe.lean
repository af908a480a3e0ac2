/- Those that come; do lengths serve? No condition but what each says. -/
import Derived.Test.YtlchakkdgkbabaaLCosts
set_option linter.unusedSimpArgs false
set_option linter.unusedVariables false
set_option maxRecDepth 8000
set_option maxHeartbeats 8000000
namespace Go.Proofs.Ytlchakkdgkbabaa
open Go.Eng Go.RowKit
theorem wts_snoc (of : List Int) (k : Nat) (h : 0 < of.getD k 0) : wts (sgl of k) ++ [of.getD k 0] = wts (sgl of (k + 1)) := by
  rw [sgl, if_pos h]
  simp [wts]
theorem coming_giv (of : List Int) (hl : of.length ≤ 1000) : Giv Try.prog 10 [.lst 1 (li .i64 of)] (retV [.lst 1 (li .i64 (wts (sgl of of.length)))]) := by
  have hll := li_length (k := .i64) (l := of)
  refine Giv.of mixed c10 (Nat.le_of_ble_eq_true rfl) ?_
  simp -dsimp -implicitDefEqProofs (disch := first | omega | (simp only [List.length_append, List.length_cons, List.length_nil, List.length_take, List.length_drop]; omega)) only [a10, ↓aPre, aPost, oneW, allOne, retV, retVA, simprocAttr]
  refine loop_nil 3 100 1 (fun s => ∃ k m : Nat, k ≤ of.length ∧ m = (wts (sgl of k)).length ∧ s.tm 0 = .d (.lst 1 (li .i64 of)) ∧ s.tm 4 = .d (.c (.int .i64 k)) ∧ s.tm 3 = .sl 100 1 0 m ∧ s.hp 100 = some (.row 1 (li .i64 (wts (sgl of k))))) (fun s => of.length - (avN (s.tm 4)).toNat) ?_ (by decide) ?_ ?_
  · simp -dsimp -implicitDefEqProofs (disch := first | omega | (simp only [List.length_append, List.length_cons, List.length_nil, List.length_take, List.length_drop]; omega)) only [↓aPre, aPost, oneW, allOne, retV, retVA, simprocAttr]
  · refine ⟨0, 0, Nat.zero_le _, rfl, ?_⟩
    simp -dsimp -implicitDefEqProofs (disch := first | omega | (simp only [List.length_append, List.length_cons, List.length_nil, List.length_take, List.length_drop]; omega)) only [↓aPre, aPost, oneW, allOne, retV, retVA, simprocAttr]
    rfl
  rintro s ⟨k, m, hk, hm, hs⟩
  have hml := li_length (k := .i64) (l := wts (sgl of k))
  rw [← hm] at hml
  have hmk : m ≤ k := by
    rw [hm, wts_len]
    exact sgl_le of k
  by_cases hlt : k < of.length
  · by_cases hp : of.getD k 0 > 0
    · have e := wts_snoc of k hp
      have hm2 : m + 1 = (wts (sgl of (k + 1))).length := by rw [← e, List.length_append, ← hm]; rfl
      obtain ⟨z, hz⟩ : ∃ z, z = of.getD k 0 := ⟨_, rfl⟩
      rw [← hz] at hp e
      simp -dsimp -implicitDefEqProofs (disch := first | omega | (simp only [List.length_append, List.length_cons, List.length_nil, List.length_take, List.length_drop]; omega)) only [hs, hll, ← hz, hml, ↓aPre, aPost, oneW, allOne, retV, retVA, simprocAttr]
      refine round_of ⟨k + 1, m + 1, by omega, hm2, ?_⟩ ?_
      · simp -dsimp -implicitDefEqProofs (disch := first | omega | (simp only [List.length_append, List.length_cons, List.length_nil, List.length_take, List.length_drop]; omega)) only [hs, ← e, ↓aPre, aPost, oneW, allOne, retV, retVA, simprocAttr]
      · simp -dsimp -implicitDefEqProofs (disch := first | omega | (simp only [List.length_append, List.length_cons, List.length_nil, List.length_take, List.length_drop]; omega)) only [hs, ↓aPre, aPost, oneW, allOne, retV, retVA, simprocAttr]
        omega
    · have e := sgl_row0 of k hp
      rw [← e] at hm
      obtain ⟨z, hz⟩ : ∃ z, z = of.getD k 0 := ⟨_, rfl⟩
      rw [← hz] at hp
      simp -dsimp -implicitDefEqProofs (disch := first | omega | (simp only [List.length_append, List.length_cons, List.length_nil, List.length_take, List.length_drop]; omega)) only [hs, hll, ← hz, ↓aPre, aPost, oneW, allOne, retV, retVA, simprocAttr]
      refine round_of ⟨k + 1, m, by omega, hm, ?_⟩ ?_
      · simp -dsimp -implicitDefEqProofs (disch := first | omega | (simp only [List.length_append, List.length_cons, List.length_nil, List.length_take, List.length_drop]; omega)) only [hs, e, ↓aPre, aPost, oneW, allOne, retV, retVA, simprocAttr]
      · simp -dsimp -implicitDefEqProofs (disch := first | omega | (simp only [List.length_append, List.length_cons, List.length_nil, List.length_take, List.length_drop]; omega)) only [hs, ↓aPre, aPost, oneW, allOne, retV, retVA, simprocAttr]
        omega
  · obtain rfl : k = of.length := by omega
    simp -dsimp -implicitDefEqProofs (disch := first | omega | (simp only [List.length_append, List.length_cons, List.length_nil, List.length_take, List.length_drop]; omega)) only [hs, hll, hml, ↓aPre, aPost, oneW, allOne, retV, retVA, simprocAttr]
    refine post_eq ?_
    first | rfl | rw [List.take_of_length_le (by rw [hml]; exact Nat.le_refl _)] | rw [List.take_of_length_le (by rw [← hm]; exact Nat.le_refl _)]
theorem krF_b (of : List Int) (f : Nat → Nat) : ∀ k, 0 ≤ krF of f 30 k ∧ krF of f 30 k ≤ k * 1073741824
  | 0 => by simp [krF]
  | k + 1 => by
    have := krF_b of f k
    have h2 : 2 ^ (30 - f k) ≤ 2 ^ 30 := Nat.pow_le_pow_right (by decide) (by omega)
    rw [krF]
    obtain ⟨p, hp⟩ : ∃ p, p = 2 ^ (30 - f k) := ⟨_, rfl⟩
    rw [← hp] at h2 ⊢
    split <;> omega
theorem krF_one {of : List Int} {f : Nat → Nat} : ∀ {k : Nat}, (∀ i, i < k → 0 < of.getD i 0 → f i = 1) → krF of f 30 k = (sgl of k).length * 536870912
  | 0, _ => by simp [krF, sgl]
  | k + 1, h => by
    rw [krF, sgl, krF_one fun i hi => h i (by omega)]
    by_cases c : 0 < of.getD k 0
    · rw [if_pos c, if_pos c, h k (by omega) c, List.length_append]
      simp only [List.length_cons, List.length_nil]
      omega
    · rw [if_neg c, if_neg c, Int.add_zero]
theorem krF_congr {of : List Int} {f g : Nat → Nat} {D : Nat} : ∀ {k : Nat}, (∀ i, i < k → f i = g i) → krF of f D k = krF of g D k
  | 0, _ => rfl
  | k + 1, h => by rw [krF, krF, krF_congr fun i hi => h i (by omega), h k (by omega)]
theorem serves_giv (of : List Int) (L : Nat) (h1 : 1 ≤ L) (h2 : L ≤ 30) (hl : of.length ≤ 300) (hg : GoodL of) (hc : (sgs of).length ≤ 2 ^ L) : Giv Try.prog 11 [.lst 1 (li .i64 of), .lst 1 (li .i64 (lensL of L)), .c (.int .i64 L)] (retV [.c (.bool true)]) := by
  have hll := li_length (k := .i64) (l := of)
  have hl2 := lensL_len of L
  have hl3 := li_length (k := .i64) (l := lensL of L)
  rw [hl2] at hl3
  have hn := sgs_len of
  have hend : ((sgs of).length = 0 ∧ True) ∨ ((sgs of).length = 1 ∧ krF of (lensF of L) 30 of.length = 536870912) ∨ (2 ≤ (sgs of).length ∧ krF of (lensF of L) 30 of.length = 1073741824) := by
    by_cases e0 : (sgs of).length = 0
    · exact .inl ⟨e0, trivial⟩
    by_cases e1 : (sgs of).length = 1
    · refine .inr (.inl ⟨e1, ?_⟩)
      rw [krF_one (fun i hi hp => by unfold lensF; rw [if_pos e1, if_pos hp]), ← hn, e1]
      rfl
    · refine .inr (.inr ⟨by omega, ?_⟩)
      rw [krF_congr (g := lenF of L) (fun i _ => by unfold lensF; rw [if_neg e1])]
      exact kraft_F (by omega) hc h2
  refine Giv.of mixed c11 (Nat.le_of_ble_eq_true rfl) ?_
  simp -dsimp -implicitDefEqProofs (disch := first | omega | (simp only [List.length_append, List.length_cons, List.length_nil, List.length_take, List.length_drop]; omega)) only [a11, hll, hl3, ↓aPre, aPost, oneW, allOne, retV, retVA, simprocAttr]
  refine loop_of (fun s => ∃ k m : Nat, k ≤ of.length ∧ m = (sgl of k).length ∧ s.tm 0 = .d (.lst 1 (li .i64 of)) ∧ s.tm 1 = .d (.lst 1 (li .i64 (lensL of L))) ∧ s.tm 2 = .d (.c (.int .i64 L)) ∧ s.tm 7 = .d (.c (.int .i64 (krF of (lensF of L) 30 k))) ∧ s.tm 8 = .d (.c (.int .i64 m)) ∧ s.tm 9 = .d (.c (.int .i64 k))) (fun s => of.length - (avN (s.tm 9)).toNat) ?_ ?_
  · refine ⟨0, 0, Nat.zero_le _, rfl, ?_⟩
    simp -dsimp -implicitDefEqProofs (disch := first | omega | (simp only [List.length_append, List.length_cons, List.length_nil, List.length_take, List.length_drop]; omega)) only [krF, ↓aPre, aPost, oneW, allOne, retV, retVA, simprocAttr]
  rintro s ⟨k, m, hk, hm, hs⟩
  have hmk : m ≤ k := by rw [hm]; exact sgl_le of k
  by_cases hlt : k < of.length
  · have hb := hg k hlt
    obtain ⟨q1, q2⟩ := lensF_in h1 hc hlt
    have q3 := lensL_get (L := L) hlt
    have hkb := krF_b of (lensF of L) k
    have hks : krF of (lensF of L) 30 (k + 1) = krF of (lensF of L) 30 k + (if 0 < of.getD k 0 then ((2 ^ (30 - lensF of L k) : Nat) : Int) else 0) := rfl
    have hsl : (sgl of (k + 1)).length = (sgl of k).length + (if 0 < of.getD k 0 then 1 else 0) := by
      rw [sgl]
      split
      · rw [List.length_append]; rfl
      · rfl
    rw [← hm] at hsl
    obtain ⟨z, hz⟩ : ∃ z, z = of.getD k 0 := ⟨_, rfl⟩
    obtain ⟨v, hv⟩ : ∃ v, v = lensF of L k := ⟨_, rfl⟩
    obtain ⟨w, hw⟩ : ∃ w, w = krF of (lensF of L) 30 k := ⟨_, rfl⟩
    rw [← hw] at hs hkb
    rw [← hv] at q1 q2 q3 hks
    rw [← hz] at hb q1 q2 hks hsl
    rw [← hw] at hks
    by_cases hp : z > 0
    · obtain ⟨v1, v2⟩ := q1 hp
      rw [if_pos hp] at hks hsl
      obtain ⟨e, he⟩ : ∃ e, e = 30 - v := ⟨_, rfl⟩
      have i1 : (30 : Int) - (v : Int) = (e : Int) := by omega
      have hsh := shl1 e (by omega)
      have hpw : 2 ^ e ≤ 2 ^ 30 := Nat.pow_le_pow_right (by decide) (by omega)
      rw [← he] at hks
      obtain ⟨p, hpp⟩ : ∃ p, p = 2 ^ e := ⟨_, rfl⟩
      rw [← hpp] at hsh hks hpw
      have c1 : ¬ (v : Int) < 1 := by omega
      have c2 : ¬ (v : Int) > (L : Int) := by omega
      have c3 : ¬ z = 0 := by omega
      simp -dsimp -implicitDefEqProofs (disch := first | omega | (simp only [List.length_append, List.length_cons, List.length_nil, List.length_take, List.length_drop]; omega)) only [hs, hll, hl3, ← hz, q3, hp, c1, c2, c3, i1, hsh, ↓aPre, aPost, oneW, allOne, retV, retVA, simprocAttr]
      refine round_of ⟨k + 1, m + 1, by omega, hsl.symm, ?_⟩ ?_
      · simp -dsimp -implicitDefEqProofs (disch := first | omega | (simp only [List.length_append, List.length_cons, List.length_nil, List.length_take, List.length_drop]; omega)) only [hs, hks, ↓aPre, aPost, oneW, allOne, retV, retVA, simprocAttr]
      · simp -dsimp -implicitDefEqProofs (disch := first | omega | (simp only [List.length_append, List.length_cons, List.length_nil, List.length_take, List.length_drop]; omega)) only [hs, ↓aPre, aPost, oneW, allOne, retV, retVA, simprocAttr]
        omega
    · have v0 := q2 hp
      rw [if_neg hp, Int.add_zero] at hks
      rw [if_neg hp, Nat.add_zero] at hsl
      have c3 : z = 0 := by omega
      rw [v0, Int.natCast_zero] at q3
      simp -dsimp -implicitDefEqProofs (disch := first | omega | (simp only [List.length_append, List.length_cons, List.length_nil, List.length_take, List.length_drop]; omega)) only [hs, hll, hl3, ← hz, q3, hp, c3, ↓aPre, aPost, oneW, allOne, retV, retVA, simprocAttr]
      refine round_of ⟨k + 1, m, by omega, hsl.symm, ?_⟩ ?_
      · simp -dsimp -implicitDefEqProofs (disch := first | omega | (simp only [List.length_append, List.length_cons, List.length_nil, List.length_take, List.length_drop]; omega)) only [hs, hks, ↓aPre, aPost, oneW, allOne, retV, retVA, simprocAttr]
      · simp -dsimp -implicitDefEqProofs (disch := first | omega | (simp only [List.length_append, List.length_cons, List.length_nil, List.length_take, List.length_drop]; omega)) only [hs, ↓aPre, aPost, oneW, allOne, retV, retVA, simprocAttr]
        omega
  · obtain rfl : k = of.length := by omega
    rw [← hm] at hn
    rcases hend with ⟨e, -⟩ | ⟨e, e2⟩ | ⟨e, e2⟩
    · obtain rfl : m = 0 := by omega
      simp -dsimp -implicitDefEqProofs (disch := first | omega | (simp only [List.length_append, List.length_cons, List.length_nil, List.length_take, List.length_drop]; omega)) only [hs, hll, hl3, ↓aPre, aPost, oneW, allOne, retV, retVA, simprocAttr]
      exact post_eq rfl
    · obtain rfl : m = 1 := by omega
      rw [e2] at hs
      simp -dsimp -implicitDefEqProofs (disch := first | omega | (simp only [List.length_append, List.length_cons, List.length_nil, List.length_take, List.length_drop]; omega)) only [hs, hll, hl3, ↓aPre, aPost, oneW, allOne, retV, retVA, simprocAttr]
      exact post_eq rfl
    · have hm2 : ¬ m = 0 := by omega
      rw [e2] at hs
      simp -dsimp -implicitDefEqProofs (disch := first | omega | (simp only [List.length_append, List.length_cons, List.length_nil, List.length_take, List.length_drop]; omega)) only [hs, hll, hl3, ↓aPre, aPost, oneW, allOne, retV, retVA, simprocAttr]
      exact post_eq rfl
end Go.Proofs.Ytlchakkdgkbabaa
