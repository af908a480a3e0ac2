/- The reference's times: which there are, their texts and numbers, a text's time. No condition but what each says. -/
import Derived.Test.YtfighiceodplnaaDoorWParse
set_option linter.unusedSimpArgs false
set_option linter.unusedVariables false
set_option maxRecDepth 8000
set_option maxHeartbeats 4000000
namespace Go.Proofs.YtfighiceodplnaaDoor
open Go.Eng Go.RowKit
def tL (y m d h mi s : Int) : List Int := [y, m, d, h, mi, s]
theorem of_giv8 (y m d h mi s : Int) : Giv Tryd.prog 8 [tD y m d h mi s] (retV [.lst 1 (li .i64 (tL y m d h mi s))]) := by
  refine Giv.of mixed c8 (Nat.le_of_ble_eq_true rfl) ?_
  unfold tD tL
  simp -dsimp -implicitDefEqProofs (disch := first | omega | (simp only [List.length_append, List.length_cons, List.length_nil, List.length_take, List.length_drop]; omega)) only [a8, ↓aPre, aPost, oneW, allOne, retV, retVA, simprocAttr]
  exact post_eq rfl
theorem rright_giv (y m d h mi s : Int) : Giv Tryd.prog 11 [.lst 1 (li .i64 (tL y m d h mi s))] (retV [.c (.bool (decide (rightP y m d h mi s)))]) := by
  refine Giv.of mixed c11 (Nat.le_of_ble_eq_true rfl) ?_
  have hl : (tL y m d h mi s).length = 6 := rfl
  have q0 : (tL y m d h mi s).getD 0 0 = y := rfl
  have q1 : (tL y m d h mi s).getD 1 0 = m := rfl
  have q2 : (tL y m d h mi s).getD 2 0 = d := rfl
  have q3 : (tL y m d h mi s).getD 3 0 = h := rfl
  have q4 : (tL y m d h mi s).getD 4 0 = mi := rfl
  have q5 : (tL y m d h mi s).getD 5 0 = s := rfl
  have out : (¬ rightP y m d h mi s) → decide (rightP y m d h mi s) = false := fun c => decide_eq_false c
  have inn : rightP y m d h mi s → decide (rightP y m d h mi s) = true := fun c => decide_eq_true c
  obtain ⟨B, hB⟩ : ∃ B, B = decide (rightP y m d h mi s) := ⟨_, rfl⟩
  rw [← hB] at out inn ⊢
  by_cases t1 : ¬ 0 ≤ y
  · rw [out (fun c => t1 c.1.1)]
    simp -dsimp -implicitDefEqProofs (disch := first | omega | (simp only [List.length_append, List.length_cons, List.length_nil, List.length_take, List.length_drop]; omega)) only [a11, hl, q0, q1, q2, q3, q4, q5, ↓aPre, aPost, oneW, allOne, retV, retVA, simprocAttr]
    exact post_eq rfl
  by_cases t2 : ¬ y ≤ 9999
  · rw [out (fun c => t2 c.1.2)]
    simp -dsimp -implicitDefEqProofs (disch := first | omega | (simp only [List.length_append, List.length_cons, List.length_nil, List.length_take, List.length_drop]; omega)) only [a11, hl, q0, q1, q2, q3, q4, q5, ↓aPre, aPost, oneW, allOne, retV, retVA, simprocAttr]
    exact post_eq rfl
  by_cases t3 : ¬ 1 ≤ m
  · rw [out (fun c => t3 c.2.1.1)]
    simp -dsimp -implicitDefEqProofs (disch := first | omega | (simp only [List.length_append, List.length_cons, List.length_nil, List.length_take, List.length_drop]; omega)) only [a11, hl, q0, q1, q2, q3, q4, q5, ↓aPre, aPost, oneW, allOne, retV, retVA, simprocAttr]
    exact post_eq rfl
  by_cases t4 : ¬ m ≤ 12
  · rw [out (fun c => t4 c.2.1.2)]
    simp -dsimp -implicitDefEqProofs (disch := first | omega | (simp only [List.length_append, List.length_cons, List.length_nil, List.length_take, List.length_drop]; omega)) only [a11, hl, q0, q1, q2, q3, q4, q5, ↓aPre, aPost, oneW, allOne, retV, retVA, simprocAttr]
    exact post_eq rfl
  by_cases t5 : ¬ 1 ≤ d
  · rw [out (fun c => t5 c.2.2.1.1)]
    simp -dsimp -implicitDefEqProofs (disch := first | omega | (simp only [List.length_append, List.length_cons, List.length_nil, List.length_take, List.length_drop]; omega)) only [a11, hl, q0, q1, q2, q3, q4, q5, ↓aPre, aPost, oneW, allOne, retV, retVA, simprocAttr]
    exact post_eq rfl
  have t1' := Decidable.not_not.1 t1
  have t2' := Decidable.not_not.1 t2
  have t3' := Decidable.not_not.1 t3
  have t4' := Decidable.not_not.1 t4
  have t5' := Decidable.not_not.1 t5
  clear t1 t2 t3 t4 t5
  have hdg := rdays_giv y t1'
  obtain ⟨k, hk⟩ : ∃ k : Nat, m = ((k + 1 : Nat) : Int) := ⟨(m - 1).toNat, by omega⟩
  have hg := daysL_get y k (by omega)
  rw [← hk] at hg
  have hll : (daysL y).length = 12 := rfl
  have hkm : (m - 1).toNat = k := by omega
  obtain ⟨D, hD⟩ : ∃ D, D = dys y m := ⟨_, rfl⟩
  unfold rightP at out inn
  rw [← hD] at hg out inn
  by_cases u1 : ¬ d ≤ D
  · rw [out (fun c => u1 c.2.2.1.2)]
    simp -dsimp -implicitDefEqProofs (disch := first | omega | (simp only [List.length_append, List.length_cons, List.length_nil, List.length_take, List.length_drop]; omega)) only [a11, hl, q0, q1, q2, q3, q4, q5, ↓aPre, aPost, oneW, allOne, retV, retVA, simprocAttr]
    refine call_giv hdg ?_
    simp -dsimp -implicitDefEqProofs (disch := first | omega | (simp only [List.length_append, List.length_cons, List.length_nil, List.length_take, List.length_drop]; omega)) only [hl, q0, q1, q2, q3, q4, q5, hkm, hll, hg, ↓aPre, aPost, oneW, allOne, retV, retVA, simprocAttr]
    exact post_eq rfl
  by_cases u2 : ¬ 0 ≤ h
  · rw [out (fun c => u2 c.2.2.2.1.1)]
    simp -dsimp -implicitDefEqProofs (disch := first | omega | (simp only [List.length_append, List.length_cons, List.length_nil, List.length_take, List.length_drop]; omega)) only [a11, hl, q0, q1, q2, q3, q4, q5, ↓aPre, aPost, oneW, allOne, retV, retVA, simprocAttr]
    refine call_giv hdg ?_
    simp -dsimp -implicitDefEqProofs (disch := first | omega | (simp only [List.length_append, List.length_cons, List.length_nil, List.length_take, List.length_drop]; omega)) only [hl, q0, q1, q2, q3, q4, q5, hkm, hll, hg, ↓aPre, aPost, oneW, allOne, retV, retVA, simprocAttr]
    exact post_eq rfl
  by_cases u3 : ¬ h ≤ 23
  · rw [out (fun c => u3 c.2.2.2.1.2)]
    simp -dsimp -implicitDefEqProofs (disch := first | omega | (simp only [List.length_append, List.length_cons, List.length_nil, List.length_take, List.length_drop]; omega)) only [a11, hl, q0, q1, q2, q3, q4, q5, ↓aPre, aPost, oneW, allOne, retV, retVA, simprocAttr]
    refine call_giv hdg ?_
    simp -dsimp -implicitDefEqProofs (disch := first | omega | (simp only [List.length_append, List.length_cons, List.length_nil, List.length_take, List.length_drop]; omega)) only [hl, q0, q1, q2, q3, q4, q5, hkm, hll, hg, ↓aPre, aPost, oneW, allOne, retV, retVA, simprocAttr]
    exact post_eq rfl
  by_cases u4 : ¬ 0 ≤ mi
  · rw [out (fun c => u4 c.2.2.2.2.1.1)]
    simp -dsimp -implicitDefEqProofs (disch := first | omega | (simp only [List.length_append, List.length_cons, List.length_nil, List.length_take, List.length_drop]; omega)) only [a11, hl, q0, q1, q2, q3, q4, q5, ↓aPre, aPost, oneW, allOne, retV, retVA, simprocAttr]
    refine call_giv hdg ?_
    simp -dsimp -implicitDefEqProofs (disch := first | omega | (simp only [List.length_append, List.length_cons, List.length_nil, List.length_take, List.length_drop]; omega)) only [hl, q0, q1, q2, q3, q4, q5, hkm, hll, hg, ↓aPre, aPost, oneW, allOne, retV, retVA, simprocAttr]
    exact post_eq rfl
  by_cases u5 : ¬ mi ≤ 59
  · rw [out (fun c => u5 c.2.2.2.2.1.2)]
    simp -dsimp -implicitDefEqProofs (disch := first | omega | (simp only [List.length_append, List.length_cons, List.length_nil, List.length_take, List.length_drop]; omega)) only [a11, hl, q0, q1, q2, q3, q4, q5, ↓aPre, aPost, oneW, allOne, retV, retVA, simprocAttr]
    refine call_giv hdg ?_
    simp -dsimp -implicitDefEqProofs (disch := first | omega | (simp only [List.length_append, List.length_cons, List.length_nil, List.length_take, List.length_drop]; omega)) only [hl, q0, q1, q2, q3, q4, q5, hkm, hll, hg, ↓aPre, aPost, oneW, allOne, retV, retVA, simprocAttr]
    exact post_eq rfl
  by_cases u6 : ¬ 0 ≤ s
  · rw [out (fun c => u6 c.2.2.2.2.2.1)]
    simp -dsimp -implicitDefEqProofs (disch := first | omega | (simp only [List.length_append, List.length_cons, List.length_nil, List.length_take, List.length_drop]; omega)) only [a11, hl, q0, q1, q2, q3, q4, q5, ↓aPre, aPost, oneW, allOne, retV, retVA, simprocAttr]
    refine call_giv hdg ?_
    simp -dsimp -implicitDefEqProofs (disch := first | omega | (simp only [List.length_append, List.length_cons, List.length_nil, List.length_take, List.length_drop]; omega)) only [hl, q0, q1, q2, q3, q4, q5, hkm, hll, hg, ↓aPre, aPost, oneW, allOne, retV, retVA, simprocAttr]
    exact post_eq rfl
  by_cases u7 : ¬ s ≤ 59
  · rw [out (fun c => u7 c.2.2.2.2.2.2)]
    simp -dsimp -implicitDefEqProofs (disch := first | omega | (simp only [List.length_append, List.length_cons, List.length_nil, List.length_take, List.length_drop]; omega)) only [a11, hl, q0, q1, q2, q3, q4, q5, ↓aPre, aPost, oneW, allOne, retV, retVA, simprocAttr]
    refine call_giv hdg ?_
    simp -dsimp -implicitDefEqProofs (disch := first | omega | (simp only [List.length_append, List.length_cons, List.length_nil, List.length_take, List.length_drop]; omega)) only [hl, q0, q1, q2, q3, q4, q5, hkm, hll, hg, ↓aPre, aPost, oneW, allOne, retV, retVA, simprocAttr]
    exact post_eq rfl
  rw [inn ⟨⟨t1', t2'⟩, ⟨t3', t4'⟩, ⟨t5', by omega⟩, ⟨by omega, by omega⟩, ⟨by omega, by omega⟩, by omega, by omega⟩]
  simp -dsimp -implicitDefEqProofs (disch := first | omega | (simp only [List.length_append, List.length_cons, List.length_nil, List.length_take, List.length_drop]; omega)) only [a11, hl, q0, q1, q2, q3, q4, q5, ↓aPre, aPost, oneW, allOne, retV, retVA, simprocAttr]
  refine call_giv hdg ?_
  simp -dsimp -implicitDefEqProofs (disch := first | omega | (simp only [List.length_append, List.length_cons, List.length_nil, List.length_take, List.length_drop]; omega)) only [hl, q0, q1, q2, q3, q4, q5, hkm, hll, hg, ↓aPre, aPost, oneW, allOne, retV, retVA, simprocAttr]
  exact post_eq rfl
/-- so many last digits -/
def low (n : Nat) : Nat → List Int
  | 0 => []
  | k + 1 => [48 + ((n / 10 ^ k % 10 : Nat) : Int)] ++ low n k
theorem low_isD (n : Nat) : ∀ k, isD (low n k)
  | 0 => by intro z hz; cases hz
  | k + 1 => by
    intro z hz
    rcases List.mem_append.1 hz with h | h
    · rw [List.mem_singleton.1 h]; omega
    · exact low_isD n k z h
theorem low_len (n : Nat) : ∀ k, (low n k).length = k
  | 0 => rfl
  | k + 1 => by rw [low, List.length_append, low_len n k, List.length_singleton]; omega
theorem vf_lin : ∀ (l : List Int) (a : Nat), vf a l = a * 10 ^ l.length + vf 0 l
  | [], a => by simp [vf]
  | z :: l, a => by
    rw [vf, vf, vf_lin l (10 * a + _), vf_lin l (10 * 0 + _), List.length_cons, Nat.pow_succ, Nat.mul_zero, Nat.zero_add, Nat.add_mul, Nat.mul_comm 10 a, Nat.mul_assoc, Nat.mul_comm 10, Nat.add_assoc]
theorem low_vf (n : Nat) : ∀ k, vf 0 (low n k) = n % 10 ^ k
  | 0 => by rw [low, Nat.pow_zero, Nat.mod_one]; rfl
  | k + 1 => by
    rw [low, List.singleton_append, vf, vf_lin, low_vf n k, low_len]
    have : 10 * 0 + (48 + ((n / 10 ^ k % 10 : Nat) : Int) - 48).toNat = n / 10 ^ k % 10 := by omega
    rw [this, Nat.pow_succ, Nat.mod_mul, Nat.mul_comm, Nat.add_comm]
theorem low_pad {n k : Nat} (h : n < 10 ^ (k + 1)) : low n (k + 1) = pad (k + 1) n := by
  have := pad_vf k (low n (k + 1)) (low_isD n _) (low_len n _)
  rw [low_vf, Nat.mod_eq_of_lt h] at this
  exact this.symm
theorem rdigs_giv (n w : Nat) (hw : w ≤ 3) (h : n < 10 ^ (w + 1)) : Giv Tryd.prog 22 [.c (.int .i64 n), .c (.int .i64 (w + 1 : Nat))] (retV [.c (.string (strOfNums (pad (w + 1) n)))]) := by
  rw [← low_pad h]
  have hp : 10 ^ (w + 1) ≤ 10000 := Nat.pow_le_pow_right (by decide) (show w + 1 ≤ 4 by omega)
  refine Giv.of mixed c22 (Nat.le_of_ble_eq_true rfl) ?_
  obtain ⟨W, hW⟩ : ∃ W, W = w + 1 := ⟨_, rfl⟩
  rw [← hW]
  simp -dsimp -implicitDefEqProofs (disch := first | omega | (simp only [List.length_append, List.length_cons, List.length_nil, List.length_take, List.length_drop]; omega)) only [a22, ↓aPre, aPost, oneW, allOne, retV, retVA, simprocAttr]
  refine loop_of (fun s => ∃ k : Nat, k ≤ W ∧ s.tm 6 = .d (.c (.int .i64 k)) ∧ s.tm 1 = .d (.c (.int .i64 W)) ∧ s.tm 0 = .d (.c (.int .i64 (n / 10 ^ k : Nat))) ∧ s.tm 5 = .d (.c (.string (strOfNums (low n k))))) (fun s => W - (avN (s.tm 6)).toNat) ?_ ?_
  · refine ⟨0, Nat.zero_le _, ?_⟩
    have e0 : low n 0 = [] := rfl
    simp -dsimp -implicitDefEqProofs (disch := first | omega | (simp only [List.length_append, List.length_cons, List.length_nil, List.length_take, List.length_drop]; omega)) only [Int.natCast_zero, Nat.pow_zero, Nat.div_one, e0, ↓aPre, aPost, oneW, allOne, retV, retVA, simprocAttr]
  rintro s ⟨k, hk, hs⟩
  have hll := low_len n k
  by_cases hlt : k < W
  · obtain ⟨x, hx⟩ : ∃ x, x = n / 10 ^ k := ⟨_, rfl⟩
    have hxn : x ≤ n := by rw [hx]; exact Nat.div_le_self _ _
    have hnx : n / 10 ^ (k + 1) = x / 10 := by rw [hx, Nat.pow_succ, Nat.div_div_eq_div_mul]
    have hlo : low n (k + 1) = [48 + ((x % 10 : Nat) : Int)] ++ low n k := by rw [low, hx]
    have m1 : (x : Int).tmod 10 = ((x % 10 : Nat) : Int) := by rw [Int.tmod_eq_emod_of_nonneg (by omega)]; rfl
    have d1 : (x : Int).tdiv 10 = ((x / 10 : Nat) : Int) := by rw [Int.tdiv_eq_ediv_of_nonneg (by omega)]; rfl
    have hr := Nat.mod_lt x (show 0 < 10 by decide)
    obtain ⟨r, hre⟩ : ∃ r, r = x % 10 := ⟨_, rfl⟩
    obtain ⟨x', hx'⟩ : ∃ x', x' = x / 10 := ⟨_, rfl⟩
    rw [← hx] at hs
    rw [← hre] at m1 hlo hr
    rw [← hx'] at d1 hnx
    obtain ⟨r1, hr1⟩ : ∃ r1, r1 = r + 1 := ⟨_, rfl⟩
    have e1 : (r : Int) + 1 = (r1 : Int) := by omega
    have pc : (([48, 49, 50, 51, 52, 53, 54, 55, 56, 57] : List Int).drop r).take (r1 - r) = [48 + (r : Int)] := by
      rw [hr1, show r + 1 - r = 1 by omega]
      rcases (show r = 0 ∨ r = 1 ∨ r = 2 ∨ r = 3 ∨ r = 4 ∨ r = 5 ∨ r = 6 ∨ r = 7 ∨ r = 8 ∨ r = 9 by omega) with rfl | rfl | rfl | rfl | rfl | rfl | rfl | rfl | rfl | rfl <;> rfl
    have pl : ([48, 49, 50, 51, 52, 53, 54, 55, 56, 57] : List Int).length = 10 := rfl
    obtain ⟨pcs, hpcs⟩ : ∃ q, q = [48 + (r : Int)] := ⟨_, rfl⟩
    have hpl : pcs.length = 1 := by rw [hpcs]; rfl
    rw [← hpcs] at pc hlo
    simp -dsimp -implicitDefEqProofs (disch := first | omega | (simp only [List.length_append, List.length_cons, List.length_nil, List.length_take, List.length_drop]; omega)) only [hs, m1, d1, e1, pl, pc, ↓aPre, aPost, oneW, allOne, retV, retVA, simprocAttr]
    refine round_of ⟨k + 1, by omega, ?_⟩ ?_
    · rw [hnx, hlo]
      simp -dsimp -implicitDefEqProofs (disch := first | omega | (simp only [List.length_append, List.length_cons, List.length_nil, List.length_take, List.length_drop]; omega)) only [hs, m1, d1, e1, pl, pc, ↓aPre, aPost, oneW, allOne, retV, retVA, simprocAttr]
    · simp -dsimp -implicitDefEqProofs (disch := first | omega | (simp only [List.length_append, List.length_cons, List.length_nil, List.length_take, List.length_drop]; omega)) only [hs, ↓aPre, aPost, oneW, allOne, retV, retVA, simprocAttr]
      omega
  · obtain rfl : k = W := by omega
    simp -dsimp -implicitDefEqProofs (disch := first | omega | (simp only [List.length_append, List.length_cons, List.length_nil, List.length_take, List.length_drop]; omega)) only [hs, ↓aPre, aPost, oneW, allOne, retV, retVA, simprocAttr]
    exact post_eq rfl
theorem rtext_giv (y m d h mi s : Nat) (hr : rightP y m d h mi s) : Giv Tryd.prog 14 [.lst 1 (li .i64 (tL y m d h mi s))] (retV [.c (.string (strOfNums (txt y m d h mi s)))]) := by
  obtain ⟨r1, r2, r3, r4, r5, r6⟩ := hr
  have hdb := dys_b y m
  have g1 : Giv Tryd.prog 22 [.c (.int .i64 y), .c (.int .i64 4)] _ := rdigs_giv y 3 (by decide) (by omega)
  have two : ∀ n : Nat, n < 100 → Giv Tryd.prog 22 [.c (.int .i64 n), .c (.int .i64 2)] (retV [.c (.string (strOfNums (pad 2 n)))]) := fun n hn => rdigs_giv n 1 (by decide) hn
  have g2 := two m (by omega)
  have g3 := two d (by omega)
  have g4 := two h (by omega)
  have g5 := two mi (by omega)
  have g6 := two s (by omega)
  have p1 := pad_len (w := 3) (n := y) (by omega)
  have p2 := pad_len (w := 1) (n := m) (by omega)
  have p3 := pad_len (w := 1) (n := d) (by omega)
  have p4 := pad_len (w := 1) (n := h) (by omega)
  have p5 := pad_len (w := 1) (n := mi) (by omega)
  have p6 := pad_len (w := 1) (n := s) (by omega)
  dsimp only [Nat.reduceAdd] at p1 p2 p3 p4 p5 p6 g1
  have hl : (tL y m d h mi s).length = 6 := rfl
  have q0 : (tL y m d h mi s).getD 0 0 = y := rfl
  have q1 : (tL y m d h mi s).getD 1 0 = m := rfl
  have q2 : (tL y m d h mi s).getD 2 0 = d := rfl
  have q3 : (tL y m d h mi s).getD 3 0 = h := rfl
  have q4 : (tL y m d h mi s).getD 4 0 = mi := rfl
  have q5 : (tL y m d h mi s).getD 5 0 = s := rfl
  refine Giv.of mixed c14 (Nat.le_of_ble_eq_true rfl) ?_
  unfold txt
  simp -dsimp -implicitDefEqProofs (disch := first | omega | (simp only [List.length_append, List.length_cons, List.length_nil, List.length_take, List.length_drop]; omega)) only [a14, hl, q0, q1, q2, q3, q4, q5, ↓aPre, aPost, oneW, allOne, retV, retVA, simprocAttr]
  refine call_giv g1 ?_
  simp -dsimp -implicitDefEqProofs (disch := first | omega | (simp only [List.length_append, List.length_cons, List.length_nil, List.length_take, List.length_drop]; omega)) only [hl, q0, q1, q2, q3, q4, q5, ↓aPre, aPost, oneW, allOne, retV, retVA, simprocAttr]
  refine call_giv g2 ?_
  simp -dsimp -implicitDefEqProofs (disch := first | omega | (simp only [List.length_append, List.length_cons, List.length_nil, List.length_take, List.length_drop]; omega)) only [hl, q0, q1, q2, q3, q4, q5, p1, p2, ↓aPre, aPost, oneW, allOne, retV, retVA, simprocAttr]
  refine call_giv g3 ?_
  simp -dsimp -implicitDefEqProofs (disch := first | omega | (simp only [List.length_append, List.length_cons, List.length_nil, List.length_take, List.length_drop]; omega)) only [hl, q0, q1, q2, q3, q4, q5, p1, p2, p3, ↓aPre, aPost, oneW, allOne, retV, retVA, simprocAttr]
  refine call_giv g4 ?_
  simp -dsimp -implicitDefEqProofs (disch := first | omega | (simp only [List.length_append, List.length_cons, List.length_nil, List.length_take, List.length_drop]; omega)) only [hl, q0, q1, q2, q3, q4, q5, p1, p2, p3, p4, ↓aPre, aPost, oneW, allOne, retV, retVA, simprocAttr]
  refine call_giv g5 ?_
  simp -dsimp -implicitDefEqProofs (disch := first | omega | (simp only [List.length_append, List.length_cons, List.length_nil, List.length_take, List.length_drop]; omega)) only [hl, q0, q1, q2, q3, q4, q5, p1, p2, p3, p4, p5, ↓aPre, aPost, oneW, allOne, retV, retVA, simprocAttr]
  refine call_giv g6 ?_
  simp -dsimp -implicitDefEqProofs (disch := first | omega | (simp only [List.length_append, List.length_cons, List.length_nil, List.length_take, List.length_drop]; omega)) only [hl, q0, q1, q2, q3, q4, q5, p1, p2, p3, p4, p5, p6, ↓aPre, aPost, oneW, allOne, retV, retVA, simprocAttr]
  refine post_eq ?_
  simp only [List.append_assoc, List.singleton_append, List.cons_append, List.nil_append]
end Go.Proofs.YtfighiceodplnaaDoor
