/- Sorting by insertion. No condition but what each says. -/
import Derived.Test.YtlchakkdgkbabaaWSwap
set_option linter.unusedSimpArgs false
set_option linter.unusedVariables false
set_option maxRecDepth 8000
set_option maxHeartbeats 4000000
namespace Go.Proofs.Ytlchakkdgkbabaa
open Go.Eng Go.RowKit
/-- which comes first -/
def cmpV (p q : Int) : Int := if p < q then -1 else if p > q then 1 else 0
theorem cmpV_lt {p q : Int} : cmpV p q < 0 ↔ p < q := by
  unfold cmpV
  split
  · omega
  · split <;> omega
theorem nan_giv (x : Int) : Giv Try.prog 21 [.c (.int .i64 x)] (retV [.c (.bool false)]) := by
  refine Giv.of mixed c21 (Nat.le_of_ble_eq_true rfl) ?_
  simp -dsimp -implicitDefEqProofs (disch := first | omega | (simp only [List.length_append, List.length_cons, List.length_nil, List.length_take, List.length_drop]; omega)) only [a21, bne_self_eq_false, ↓aPre, aPost, oneW, allOne, retV, retVA, simprocAttr]
  exact post_eq rfl
theorem cmp_giv (x y : Int) : Giv Try.prog 16 [.c (.int .i64 x), .c (.int .i64 y)] (retV [.c (.int .i64 (cmpV x y))]) := by
  refine Giv.of mixed c16 (Nat.le_of_ble_eq_true rfl) ?_
  unfold cmpV
  by_cases h1 : x < y
  · simp -dsimp -implicitDefEqProofs (disch := first | omega | (simp only [List.length_append, List.length_cons, List.length_nil, List.length_take, List.length_drop]; omega)) only [a16, ↓aPre, aPost, oneW, allOne, retV, retVA, simprocAttr]
    refine call_giv (nan_giv x) ?_
    simp -dsimp -implicitDefEqProofs (disch := first | omega | (simp only [List.length_append, List.length_cons, List.length_nil, List.length_take, List.length_drop]; omega)) only [↓aPre, aPost, oneW, allOne, retV, retVA, simprocAttr]
    refine call_giv (nan_giv y) ?_
    simp -dsimp -implicitDefEqProofs (disch := first | omega | (simp only [List.length_append, List.length_cons, List.length_nil, List.length_take, List.length_drop]; omega)) only [h1, ↓aPre, aPost, oneW, allOne, retV, retVA, simprocAttr]
    exact post_eq (by rw [if_pos h1])
  · by_cases h2 : x > y
    · simp -dsimp -implicitDefEqProofs (disch := first | omega | (simp only [List.length_append, List.length_cons, List.length_nil, List.length_take, List.length_drop]; omega)) only [a16, ↓aPre, aPost, oneW, allOne, retV, retVA, simprocAttr]
      refine call_giv (nan_giv x) ?_
      simp -dsimp -implicitDefEqProofs (disch := first | omega | (simp only [List.length_append, List.length_cons, List.length_nil, List.length_take, List.length_drop]; omega)) only [↓aPre, aPost, oneW, allOne, retV, retVA, simprocAttr]
      refine call_giv (nan_giv y) ?_
      simp -dsimp -implicitDefEqProofs (disch := first | omega | (simp only [List.length_append, List.length_cons, List.length_nil, List.length_take, List.length_drop]; omega)) only [h1, h2, ↓aPre, aPost, oneW, allOne, retV, retVA, simprocAttr]
      exact post_eq (by rw [if_neg h1, if_pos h2])
    · simp -dsimp -implicitDefEqProofs (disch := first | omega | (simp only [List.length_append, List.length_cons, List.length_nil, List.length_take, List.length_drop]; omega)) only [a16, ↓aPre, aPost, oneW, allOne, retV, retVA, simprocAttr]
      refine call_giv (nan_giv x) ?_
      simp -dsimp -implicitDefEqProofs (disch := first | omega | (simp only [List.length_append, List.length_cons, List.length_nil, List.length_take, List.length_drop]; omega)) only [↓aPre, aPost, oneW, allOne, retV, retVA, simprocAttr]
      refine call_giv (nan_giv y) ?_
      simp -dsimp -implicitDefEqProofs (disch := first | omega | (simp only [List.length_append, List.length_cons, List.length_nil, List.length_take, List.length_drop]; omega)) only [h1, h2, ↓aPre, aPost, oneW, allOne, retV, retVA, simprocAttr]
      exact post_eq (by rw [if_neg h1, if_neg h2])
/-- a function that tells which parcel comes first -/
def CmpF (g : Nat) : Prop := ∀ x y : Pc, Giv Try.prog g [.agg [.c (.int .i64 x.1), .lst 1 (li .i64 x.2)], .agg [.c (.int .i64 y.1), .lst 1 (li .i64 y.2)]] (retV [.c (.int .i64 (cmpV x.1 y.1))])
theorem cmp15 : CmpF 15 := fun x y => by
  refine Giv.of mixed c15 (Nat.le_of_ble_eq_true rfl) ?_
  simp -dsimp -implicitDefEqProofs (disch := first | omega | (simp only [List.length_append, List.length_cons, List.length_nil, List.length_take, List.length_drop]; omega)) only [a15, ↓aPre, aPost, oneW, allOne, retV, retVA, simprocAttr]
  refine call_giv (cmp_giv x.1 y.1) ?_
  simp -dsimp -implicitDefEqProofs (disch := first | omega | (simp only [List.length_append, List.length_cons, List.length_nil, List.length_take, List.length_drop]; omega)) only [↓aPre, aPost, oneW, allOne, retV, retVA, simprocAttr]
  exact post_eq rfl
theorem cmp23 : CmpF 23 := fun x y => by
  refine Giv.of mixed c23 (Nat.le_of_ble_eq_true rfl) ?_
  simp -dsimp -implicitDefEqProofs (disch := first | omega | (simp only [List.length_append, List.length_cons, List.length_nil, List.length_take, List.length_drop]; omega)) only [a23, ↓aPre, aPost, oneW, allOne, retV, retVA, simprocAttr]
  refine call_giv (cmp_giv x.1 y.1) ?_
  simp -dsimp -implicitDefEqProofs (disch := first | omega | (simp only [List.length_append, List.length_cons, List.length_nil, List.length_take, List.length_drop]; omega)) only [↓aPre, aPost, oneW, allOne, retV, retVA, simprocAttr]
  exact post_eq rfl
theorem mrg_one_r {Z1 Z2 : List Pc} {x : Pc} (h1 : ∀ z ∈ Z1, z.1 ≤ x.1) (h2 : ∀ z ∈ Z2, x.1 < z.1) : mrg (Z1 ++ Z2) [x] = Z1 ++ x :: Z2 := by
  have := mrg_split (X1 := Z1) (Y1 := []) (X2 := Z2) (Y2 := [x]) (fun a ha b hb => by simp only [List.mem_cons, List.not_mem_nil, or_false] at hb; subst hb; exact h1 a ha) (fun a ha => by cases ha)
  rw [List.nil_append, mrg_nil_r] at this
  rw [this]
  cases Z2 with
  | nil => rw [mrg_nil_l]
  | cons z Z =>
    have := h2 z (by simp)
    rw [mrg_gt (by omega), mrg_nil_r]
theorem mrg_one_l {Z1 Z2 : List Pc} {x : Pc} (h1 : ∀ z ∈ Z1, z.1 < x.1) (h2 : ∀ z ∈ Z2, x.1 ≤ z.1) : mrg [x] (Z1 ++ Z2) = Z1 ++ x :: Z2 := by
  have := mrg_split (X1 := []) (Y1 := Z1) (X2 := [x]) (Y2 := Z2) (fun a ha => by cases ha) (fun a ha b hb => by simp only [List.mem_cons, List.not_mem_nil, or_false] at hb; subst hb; exact h1 a ha)
  rw [List.nil_append, mrg_nil_l] at this
  rw [this]
  cases Z2 with
  | nil => rw [mrg_nil_r]
  | cons z Z =>
    have := h2 z (by simp)
    rw [mrg_le (by omega), mrg_nil_l]
theorem stab_one (x : Pc) : stab [x] = [x] := stab_srt (List.pairwise_singleton _ _)
theorem snoc_cases {α : Type} (l : List α) : l = [] ∨ ∃ l' z, l = l' ++ [z] := by
  rcases List.eq_nil_or_concat l with h | ⟨l', z, h⟩
  · exact .inl h
  · exact .inr ⟨l', z, by rw [h]; simp⟩
theorem ins_m (g : Nat) (hg : CmpF g) (P X S : List Pc) (a b N : Nat) (ha : a = P.length) (hb : b = P.length + X.length) (hN : N = P.length + X.length + S.length) (hl : N ≤ 1000000) :
    GivM Try.prog 25 [.sl 2000000 2 0 N, .d (.c (.int .i64 a)), .d (.c (.int .i64 b)), .d (.fn g [])] [(2000000, .row 2 ((P ++ X ++ S).map pcD))] (.tup []) [(2000000, .row 2 ((P ++ stab X ++ S).map pcD))] := by
  refine GivM.of mixed c25 (Nat.le_of_ble_eq_true rfl) rfl rfl ?_
  cases X with
  | nil =>
    have hst : stab [] = [] := stab_srt List.Pairwise.nil
    rw [List.length_nil, Nat.add_zero] at hb
    rw [hst]
    simp -dsimp -implicitDefEqProofs (disch := first | omega | (simp only [List.length_append, List.length_cons, List.length_nil, List.length_take, List.length_drop]; omega)) only [a25, ↓aPre, aPost, oneW, allOne, retV, retVA, simprocAttr]
    refine loop_of (fun s => s.tm 8 = .d (.c (.int .i64 (a + 1))) ∧ s.tm 2 = .d (.c (.int .i64 b)) ∧ s.hp 2000000 = some (.row 2 ((P ++ [] ++ S).map pcD))) (fun _ => 0) ?_ ?_
    · simp -dsimp -implicitDefEqProofs (disch := first | omega | (simp only [List.length_append, List.length_cons, List.length_nil, List.length_take, List.length_drop]; omega)) only [↓aPre, aPost, oneW, allOne, retV, retVA, simprocAttr]
    rintro s hs
    simp -dsimp -implicitDefEqProofs (disch := first | omega | (simp only [List.length_append, List.length_cons, List.length_nil, List.length_take, List.length_drop]; omega)) only [hs, ↓aPre, aPost, oneW, allOne, retV, retVA, simprocAttr]
    refine end_of rfl ?_
    simp -dsimp -implicitDefEqProofs (disch := first | omega | (simp only [List.length_append, List.length_cons, List.length_nil, List.length_take, List.length_drop]; omega)) only [hs, ↓aPre, aPost, oneW, allOne, retV, retVA, simprocAttr]
  | cons x0 X0 =>
  rw [List.length_cons] at hb hN
  simp -dsimp -implicitDefEqProofs (disch := first | omega | (simp only [List.length_append, List.length_cons, List.length_nil, List.length_take, List.length_drop]; omega)) only [a25, ↓aPre, aPost, oneW, allOne, retV, retVA, simprocAttr]
  refine loop_of (fun s => ∃ (X1 X2 : List Pc), x0 :: X0 = X1 ++ X2 ∧ 1 ≤ X1.length ∧ s.tm 8 = .d (.c (.int .i64 (a + X1.length : Nat))) ∧ s.tm 0 = .sl 2000000 2 0 N ∧ s.tm 1 = .d (.c (.int .i64 a)) ∧ s.tm 2 = .d (.c (.int .i64 b)) ∧ s.tm 3 = .d (.fn g []) ∧ s.hp 2000000 = some (.row 2 ((P ++ stab X1 ++ X2 ++ S).map pcD))) (fun s => b - (avN (s.tm 8)).toNat) ?_ ?_
  · refine ⟨[x0], X0, rfl, Nat.le_refl _, ?_⟩
    have e1 : P ++ [x0] ++ X0 ++ S = P ++ x0 :: X0 ++ S := by simp
    simp -dsimp -implicitDefEqProofs (disch := first | omega | (simp only [List.length_append, List.length_cons, List.length_nil, List.length_take, List.length_drop]; omega)) only [stab_one, e1, ↓aPre, aPost, oneW, allOne, retV, retVA, simprocAttr]
  rintro s ⟨X1, X2, hX, h1, hs⟩
  have hxl : X1.length + X2.length = X0.length + 1 := by rw [← List.length_append, ← hX, List.length_cons]
  obtain ⟨t, ht⟩ : ∃ t, t = a + X1.length := ⟨_, rfl⟩
  rw [← ht] at hs
  cases X2 with
  | nil =>
    rw [List.append_nil] at hX
    rw [List.length_nil, Nat.add_zero] at hxl
    rw [← hX, List.append_nil] at hs
    simp -dsimp -implicitDefEqProofs (disch := first | omega | (simp only [List.length_append, List.length_cons, List.length_nil, List.length_take, List.length_drop]; omega)) only [hs, ↓aPre, aPost, oneW, allOne, retV, retVA, simprocAttr]
    refine end_of rfl ?_
    simp -dsimp -implicitDefEqProofs (disch := first | omega | (simp only [List.length_append, List.length_cons, List.length_nil, List.length_take, List.length_drop]; omega)) only [hs, ↓aPre, aPost, oneW, allOne, retV, retVA, simprocAttr]
  | cons x X2 =>
    rw [List.length_cons] at hxl
    have hsl := stab_len X1
    have hss := stab_isSrt X1
    simp -dsimp -implicitDefEqProofs (disch := first | omega | (simp only [List.length_append, List.length_cons, List.length_nil, List.length_take, List.length_drop]; omega)) only [hs, ↓aPre, aPost, oneW, allOne, retV, retVA, simprocAttr]
    refine loop_of (fun s => ∃ (Z1 Z2 : List Pc), stab X1 = Z1 ++ Z2 ∧ (∀ z ∈ Z2, x.1 < z.1) ∧ s.tm 9 = .d (.c (.int .i64 (a + Z1.length : Nat))) ∧ s.tm 8 = .d (.c (.int .i64 t)) ∧ s.tm 0 = .sl 2000000 2 0 N ∧ s.tm 1 = .d (.c (.int .i64 a)) ∧ s.tm 2 = .d (.c (.int .i64 b)) ∧ s.tm 3 = .d (.fn g []) ∧ s.hp 2000000 = some (.row 2 ((P ++ Z1 ++ x :: Z2 ++ X2 ++ S).map pcD))) (fun s => (avN (s.tm 9)).toNat) ?_ ?_
    · refine ⟨stab X1, [], (List.append_nil _).symm, by simp, ?_⟩
      have e1 : P ++ stab X1 ++ [x] ++ X2 ++ S = P ++ stab X1 ++ x :: X2 ++ S := by simp
      simp -dsimp -implicitDefEqProofs (disch := first | omega | (simp only [List.length_append, List.length_cons, List.length_nil, List.length_take, List.length_drop]; omega)) only [hs, hsl, e1, ht, ↓aPre, aPost, oneW, allOne, retV, retVA, simprocAttr]
    rintro s2 ⟨Z1, Z2, hZ, hgt, hs2⟩
    have hzl : Z1.length + Z2.length = X1.length := by rw [← hsl, hZ, List.length_append]
    obtain ⟨j, hj⟩ : ∃ j, j = a + Z1.length := ⟨_, rfl⟩
    rw [← hj] at hs2
    have fin : (∀ z ∈ Z1, z.1 ≤ x.1) → stab (X1 ++ [x]) = Z1 ++ x :: Z2 := fun h => by rw [stab_app, stab_one, hZ, mrg_one_r h hgt]
    have hl2 : (X1 ++ [x]).length = X1.length + 1 := by simp
    have ht2 : (t : Int) + 1 = ((a + (X1.length + 1) : Nat) : Int) := by omega
    obtain ⟨t', ht'⟩ : ∃ t', t' = a + (X1.length + 1) := ⟨_, rfl⟩
    rw [← ht'] at ht2
    rcases snoc_cases Z1 with rfl | ⟨Z', z, rfl⟩
    · rw [List.length_nil, Nat.add_zero] at hj
      subst hj
      have es := fin (by simp)
      rw [List.nil_append] at es
      simp -dsimp -implicitDefEqProofs (disch := first | omega | (simp only [List.length_append, List.length_cons, List.length_nil, List.length_take, List.length_drop]; omega)) only [hs2, ↓aPre, aPost, oneW, allOne, retV, retVA, simprocAttr]
      refine round_of ⟨X1 ++ [x], X2, by rw [hX]; simp, by simp, ?_⟩ ?_
      · rw [hl2, ← ht', es]
        simp -dsimp -implicitDefEqProofs (disch := first | omega | (simp only [List.length_append, List.length_cons, List.length_nil, List.length_take, List.length_drop]; omega)) only [hs2, ht2, ↓aPre, aPost, oneW, allOne, retV, retVA, simprocAttr]
      · simp -dsimp -implicitDefEqProofs (disch := first | omega | (simp only [List.length_append, List.length_cons, List.length_nil, List.length_take, List.length_drop]; omega)) only [hs, hs2, ↓aPre, aPost, oneW, allOne, retV, retVA, simprocAttr]
        omega
    · have hz' : (Z' ++ [z]).length = Z'.length + 1 := by simp
      rw [hz'] at hj hzl
      have hsw := sw_mid (L := P ++ (Z' ++ [z]) ++ x :: Z2 ++ X2 ++ S) (L' := P ++ Z' ++ x :: (z :: Z2) ++ X2 ++ S) (A := P ++ Z') (B := []) (C := Z2 ++ X2 ++ S) (x := z) (y := x) (i := j - 1) (j := j) (by simp) (by rw [List.length_append]; omega) (by rw [List.length_append, List.length_nil]; omega) (by simp)
      obtain ⟨L, hL⟩ : ∃ L, L = P ++ (Z' ++ [z]) ++ x :: Z2 ++ X2 ++ S := ⟨_, rfl⟩
      rw [← hL] at hsw hs2
      obtain ⟨w1, w2, w3, w4, w5, L1, L2, w6, w7, w8, w9, w10, w11, w12, w13⟩ := hsw
      have hLN : L.length = N := by rw [hL, hN]; simp only [List.length_append, List.length_cons, List.length_nil]; omega
      have q1 := pcs_len L
      have q2 := pcs_len L1
      have q3 := pcs_len L2
      rw [hLN] at q1
      rw [w6, hLN] at q2
      rw [w7, hLN] at q3
      rw [hLN] at w2 w3
      have i1 : ((j : Int) - 1).toNat = j - 1 := by omega
      have hgt2 : (j : Int) > (a : Int) := by omega
      have hc := hg x z
      by_cases hlt : x.1 < z.1
      · have hcm : cmpV x.1 z.1 < 0 := cmpV_lt.2 hlt
        simp -dsimp -implicitDefEqProofs (disch := first | omega | (simp only [List.length_append, List.length_cons, List.length_nil, List.length_take, List.length_drop]; omega)) only [hs2, hgt2, q1, i1, w4, w5, ↓aPre, aPost, oneW, allOne, retV, retVA, simprocAttr]
        refine call_giv hc ?_
        simp -dsimp -implicitDefEqProofs (disch := first | omega | (simp only [List.length_append, List.length_cons, List.length_nil, List.length_take, List.length_drop]; omega)) only [hs2, hcm, hgt2, q1, q2, q3, i1, w4, w5, w8, w9, w10, w11, w12, w13, ↓aPre, aPost, oneW, allOne, retV, retVA, simprocAttr]
        refine round_of ⟨Z', z :: Z2, by rw [hZ]; simp, ?_, ?_⟩ ?_
        · intro u hu
          rcases List.mem_cons.1 hu with rfl | hu
          · exact hlt
          · exact hgt u hu
        · have j1 : (j : Int) - 1 = ((a + Z'.length : Nat) : Int) := by omega
          obtain ⟨j', hj'⟩ : ∃ j', j' = a + Z'.length := ⟨_, rfl⟩
          rw [← hj'] at j1 ⊢
          simp -dsimp -implicitDefEqProofs (disch := first | omega | (simp only [List.length_append, List.length_cons, List.length_nil, List.length_take, List.length_drop]; omega)) only [hs2, j1, ↓aPre, aPost, oneW, allOne, retV, retVA, simprocAttr]
        · simp -dsimp -implicitDefEqProofs (disch := first | omega | (simp only [List.length_append, List.length_cons, List.length_nil, List.length_take, List.length_drop]; omega)) only [hs2, ↓aPre, aPost, oneW, allOne, retV, retVA, simprocAttr]
          omega
      · have hcm : ¬ cmpV x.1 z.1 < 0 := fun h => hlt (cmpV_lt.1 h)
        have hall : ∀ u ∈ Z' ++ [z], u.1 ≤ x.1 := fun u hu => by
          have hs' : Srt (Z' ++ [z]) := by
            have := stab_isSrt X1
            rw [hZ] at this
            exact (List.pairwise_append.1 this).1
          rcases List.mem_append.1 hu with h | h
          · have := (List.pairwise_append.1 hs').2.2 u h z (by simp)
            omega
          · obtain rfl : u = z := by simpa using h
            omega
        have es := fin hall
        simp -dsimp -implicitDefEqProofs (disch := first | omega | (simp only [List.length_append, List.length_cons, List.length_nil, List.length_take, List.length_drop]; omega)) only [hs2, hgt2, q1, i1, w4, w5, ↓aPre, aPost, oneW, allOne, retV, retVA, simprocAttr]
        refine call_giv hc ?_
        simp -dsimp -implicitDefEqProofs (disch := first | omega | (simp only [List.length_append, List.length_cons, List.length_nil, List.length_take, List.length_drop]; omega)) only [hs2, hcm, ↓aPre, aPost, oneW, allOne, retV, retVA, simprocAttr]
        refine round_of ⟨X1 ++ [x], X2, by rw [hX]; simp, by simp, ?_⟩ ?_
        · rw [hl2, ← ht', es]
          have e2 : P ++ (Z' ++ [z] ++ x :: Z2) ++ X2 ++ S = L := by rw [hL]; simp
          rw [e2]
          simp -dsimp -implicitDefEqProofs (disch := first | omega | (simp only [List.length_append, List.length_cons, List.length_nil, List.length_take, List.length_drop]; omega)) only [hs2, ht2, ↓aPre, aPost, oneW, allOne, retV, retVA, simprocAttr]
        · simp -dsimp -implicitDefEqProofs (disch := first | omega | (simp only [List.length_append, List.length_cons, List.length_nil, List.length_take, List.length_drop]; omega)) only [hs, hs2, ↓aPre, aPost, oneW, allOne, retV, retVA, simprocAttr]
          omega
end Go.Proofs.Ytlchakkdgkbabaa
