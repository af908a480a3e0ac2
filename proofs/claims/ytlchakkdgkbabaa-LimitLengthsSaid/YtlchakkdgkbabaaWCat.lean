/- Rows one behind the other: slices.Concat. No condition but what each says. -/
import Derived.Test.YtlchakkdgkbabaaWStab
set_option linter.unusedSimpArgs false
set_option linter.unusedVariables false
set_option maxRecDepth 8000
set_option maxHeartbeats 8000000
namespace Go.Proofs.Ytlchakkdgkbabaa
open Go.Eng Go.RowKit
theorem grow28 (n : Nat) (hn : n ≤ 1000000) : GivO Try.prog 28 [.c (.slice none 0 0), .c (.int .i64 n)] (.sl 0 1 0 0) (.row 1 (List.replicate n (.c (.int .i64 0)))) := by
  refine GivO.of mixed c28 (Nat.le_of_ble_eq_true rfl) ?_
  by_cases h : n = 0
  · subst h
    simp -dsimp -implicitDefEqProofs (disch := first | omega | (simp only [List.length_append, List.length_cons, List.length_nil, List.length_take, List.length_drop]; omega)) only [a28, ↓aPre, aPost, oneW, allOne, retV, retVA, simprocAttr]
    exact own_nil 1 (by decide) rfl ⟨rfl, rfl⟩
  · simp -dsimp -implicitDefEqProofs (disch := first | omega | (simp only [List.length_append, List.length_cons, List.length_nil, List.length_take, List.length_drop]; omega)) only [a28, ↓aPre, aPost, oneW, allOne, retV, retVA, simprocAttr]
    exact own_of 22 _ _ (by decide) rfl (by simp -dsimp -implicitDefEqProofs (disch := first | omega | (simp only [List.length_append, List.length_cons, List.length_nil, List.length_take, List.length_drop]; omega)) only [↓aPre, aPost, oneW, allOne, retV, retVA, simprocAttr]) rfl ⟨rfl, rfl⟩
theorem grow27 (n : Nat) (hn : n ≤ 1000000) : GivO Try.prog 27 [.c (.slice none 0 0), .c (.int .i64 n)] (.sl 0 2 0 0) (.row 2 (List.replicate n (.agg [.c (.int .i64 0), .c (.slice none 0 0)]))) := by
  refine GivO.of mixed c27 (Nat.le_of_ble_eq_true rfl) ?_
  by_cases h : n = 0
  · subst h
    simp -dsimp -implicitDefEqProofs (disch := first | omega | (simp only [List.length_append, List.length_cons, List.length_nil, List.length_take, List.length_drop]; omega)) only [a27, ↓aPre, aPost, oneW, allOne, retV, retVA, simprocAttr]
    exact own_nil 2 (by decide) rfl ⟨rfl, rfl⟩
  · simp -dsimp -implicitDefEqProofs (disch := first | omega | (simp only [List.length_append, List.length_cons, List.length_nil, List.length_take, List.length_drop]; omega)) only [a27, ↓aPre, aPost, oneW, allOne, retV, retVA, simprocAttr]
    exact own_of 22 _ _ (by decide) rfl (by simp -dsimp -implicitDefEqProofs (disch := first | omega | (simp only [List.length_append, List.length_cons, List.length_nil, List.length_take, List.length_drop]; omega)) only [↓aPre, aPost, oneW, allOne, retV, retVA, simprocAttr]) rfl ⟨rfl, rfl⟩
theorem concat_giv (ls : List (List D)) (hl : ls.length ≤ 1000000) (hf : ls.flatten.length ≤ 1000000) : Giv Try.prog 24 [.lst 1 (ls.map (D.lst 1))] (retV [.lst 1 ls.flatten]) := by
  have hml : (ls.map (D.lst 1)).length = ls.length := List.length_map ..
  refine Giv.of mixed c24 (Nat.le_of_ble_eq_true rfl) ?_
  simp -dsimp -implicitDefEqProofs (disch := first | omega | (simp only [List.length_append, List.length_cons, List.length_nil, List.length_take, List.length_drop]; omega)) only [a24, ↓aPre, aPost, oneW, allOne, retV, retVA, simprocAttr]
  refine loop_of (fun s => ∃ (A B : List (List D)) (T : Nat), ls = A ++ B ∧ T = A.flatten.length ∧ s.tm 0 = .d (.lst 1 (ls.map (D.lst 1))) ∧ s.tm 3 = .d (.c (.int .i64 T)) ∧ s.tm 9 = .d (.lst 1 (ls.map (D.lst 1))) ∧ s.tm 10 = .d (.c (.int .i64 ls.length)) ∧ s.tm 11 = .d (.c (.int .i64 A.length))) (fun s => ls.length - (avN (s.tm 11)).toNat) ?_ ?_
  · refine ⟨[], ls, 0, rfl, rfl, ?_⟩
    simp -dsimp -implicitDefEqProofs (disch := first | omega | (simp only [List.length_append, List.length_cons, List.length_nil, List.length_take, List.length_drop]; omega)) only [hml, List.length_nil, Int.natCast_zero, ↓aPre, aPost, oneW, allOne, retV, retVA, simprocAttr]
  rintro s ⟨A, B, T, hAB, hT, hs⟩
  have hlen : ls.length = A.length + B.length := by rw [hAB, List.length_append]
  cases B with
  | cons x B =>
    rw [List.length_cons] at hlen
    have hg : (ls.map (D.lst 1)).getD A.length default = .lst 1 x := by rw [hAB]; simp [List.getD]
    have ht : ls.flatten.length = T + x.length + B.flatten.length := by rw [hAB, hT]; simp; omega
    obtain ⟨T2, hT2⟩ : ∃ T2, T2 = T + x.length := ⟨_, rfl⟩
    have i1 : (T : Int) + (x.length : Int) = (T2 : Int) := by omega
    obtain ⟨k, hk⟩ : ∃ k, k = A.length := ⟨_, rfl⟩
    rw [← hk] at hs hg
    have i2 : (k : Int) + 1 = ((A ++ [x]).length : Int) := by rw [List.length_append, List.length_cons, List.length_nil]; omega
    obtain ⟨k2, hk2⟩ : ∃ k2, k2 = (A ++ [x]).length := ⟨_, rfl⟩
    rw [← hk2] at i2
    simp -dsimp -implicitDefEqProofs (disch := first | omega | (simp only [List.length_append, List.length_cons, List.length_nil, List.length_take, List.length_drop]; omega)) only [hs, hml, hg, i1, i2, ↓aPre, aPost, oneW, allOne, retV, retVA, simprocAttr]
    refine round_of ⟨A ++ [x], B, T2, by rw [hAB]; simp, by rw [hT2, hT]; simp, ?_⟩ ?_
    · rw [← hk2]
      simp -dsimp -implicitDefEqProofs (disch := first | omega | (simp only [List.length_append, List.length_cons, List.length_nil, List.length_take, List.length_drop]; omega)) only [hs, ↓aPre, aPost, oneW, allOne, retV, retVA, simprocAttr]
    · simp -dsimp -implicitDefEqProofs (disch := first | omega | (simp only [List.length_append, List.length_cons, List.length_nil, List.length_take, List.length_drop]; omega)) only [hs, ↓aPre, aPost, oneW, allOne, retV, retVA, simprocAttr]
      omega
  | nil =>
    rw [List.append_nil] at hAB
    subst hAB
    rw [List.length_nil, Nat.add_zero] at hlen
    simp -dsimp -implicitDefEqProofs (disch := first | omega | (simp only [List.length_append, List.length_cons, List.length_nil, List.length_take, List.length_drop]; omega)) only [hs, hml, ↓aPre, aPost, oneW, allOne, retV, retVA, simprocAttr]
    refine call_own (grow28 T (by omega)) ?_
    simp -dsimp -implicitDefEqProofs (disch := first | omega | (simp only [List.length_append, List.length_cons, List.length_nil, List.length_take, List.length_drop]; omega)) only [hs, hml, ↓aPre, aPost, oneW, allOne, retV, retVA, simprocAttr]
    refine loop_gh (Gh.cut (n := 24) (es := 1) (L := List.replicate T (.c (.int .i64 0))) 0 (by simp -dsimp -implicitDefEqProofs (disch := first | omega | (simp only [List.length_append, List.length_cons, List.length_nil, List.length_take, List.length_drop]; omega)) only [↓aPre, aPost, oneW, allOne, retV, retVA, simprocAttr])) (fun s => ∃ (A B : List (List D)) (k : Nat), ls = A ++ B ∧ k = A.flatten.length ∧ s.tm 0 = .d (.lst 1 (ls.map (D.lst 1))) ∧ s.tm 6 = .sl 24 1 0 k ∧ s.tm 25 = .d (.lst 1 (ls.map (D.lst 1))) ∧ s.tm 26 = .d (.c (.int .i64 ls.length)) ∧ s.tm 27 = .d (.c (.int .i64 A.length)) ∧ s.hp 24 = some (.row 1 A.flatten)) (fun s => ls.length - (avN (s.tm 27)).toNat) ?_ ?_
    · refine ⟨[], ls, 0, rfl, rfl, ?_⟩
      simp -dsimp -implicitDefEqProofs (disch := first | omega | (simp only [List.length_append, List.length_cons, List.length_nil, List.length_take, List.length_drop]; omega)) only [hs, hml, List.length_nil, Int.natCast_zero, List.flatten_nil, List.take_zero, ↓aPre, aPost, oneW, allOne, retV, retVA, simprocAttr]
    clear hs hT hlen
    rintro s ⟨A, B, k, hAB, hk, hs⟩
    have hlen : ls.length = A.length + B.length := by rw [hAB, List.length_append]
    have hfl : ls.flatten.length = A.flatten.length + B.flatten.length := by rw [hAB]; simp
    cases B with
    | cons x B =>
      rw [List.length_cons] at hlen
      have hg : (ls.map (D.lst 1)).getD A.length default = .lst 1 x := by rw [hAB]; simp [List.getD]
      have ht : (A ++ [x]).flatten = A.flatten ++ x := by simp
      have hfx : (x :: B).flatten.length = x.length + B.flatten.length := by simp
      obtain ⟨q, hq⟩ : ∃ q, q = A.length := ⟨_, rfl⟩
      rw [← hq] at hs hg
      have i2 : (q : Int) + 1 = ((A ++ [x]).length : Int) := by rw [List.length_append, List.length_cons, List.length_nil]; omega
      obtain ⟨q2, hq2⟩ : ∃ q2, q2 = (A ++ [x]).length := ⟨_, rfl⟩
      rw [← hq2] at i2
      obtain ⟨W, hW⟩ : ∃ W, W = A.flatten := ⟨_, rfl⟩
      rw [← hW] at hs hk ht hfl
      subst hk
      simp -dsimp -implicitDefEqProofs (disch := first | omega | (simp only [List.length_append, List.length_cons, List.length_nil, List.length_take, List.length_drop]; omega)) only [hs, hml, hg, i2, ↓aPre, aPost, oneW, allOne, retV, retVA, simprocAttr]
      refine round_of ⟨A ++ [x], B, _, by rw [hAB]; simp, rfl, ?_⟩ ?_
      · rw [← hq2, ht]
        simp -dsimp -implicitDefEqProofs (disch := first | omega | (simp only [List.length_append, List.length_cons, List.length_nil, List.length_take, List.length_drop]; omega)) only [hs, List.length_append, ↓aPre, aPost, oneW, allOne, retV, retVA, simprocAttr]
      · simp -dsimp -implicitDefEqProofs (disch := first | omega | (simp only [List.length_append, List.length_cons, List.length_nil, List.length_take, List.length_drop]; omega)) only [hs, ↓aPre, aPost, oneW, allOne, retV, retVA, simprocAttr]
        omega
    | nil =>
      rw [List.append_nil] at hAB
      subst hAB
      rw [List.length_nil, Nat.add_zero] at hlen
      subst hk
      simp -dsimp -implicitDefEqProofs (disch := first | omega | (simp only [List.length_append, List.length_cons, List.length_nil, List.length_take, List.length_drop]; omega)) only [hs, hml, ↓aPre, aPost, oneW, allOne, retV, retVA, simprocAttr]
      exact post_eq (by simp -dsimp -implicitDefEqProofs (disch := first | omega | (simp only [List.length_append, List.length_cons, List.length_nil, List.length_take, List.length_drop]; omega)) only [hs, ↓aPre, aPost, oneW, allOne, retV, retVA, simprocAttr])
theorem concat_o (ls : List (List D)) (hl : ls.length ≤ 1000000) (hf : ls.flatten.length ≤ 1000000) : GivO Try.prog 22 [.lst 1 (ls.map (D.lst 2))] (.sl 0 2 0 ls.flatten.length) (.row 2 ls.flatten) := by
  have hml : (ls.map (D.lst 2)).length = ls.length := List.length_map ..
  refine GivO.of mixed c22 (Nat.le_of_ble_eq_true rfl) ?_
  simp -dsimp -implicitDefEqProofs (disch := first | omega | (simp only [List.length_append, List.length_cons, List.length_nil, List.length_take, List.length_drop]; omega)) only [a22, ↓aPre, aPost, oneW, allOne, retV, retVA, simprocAttr]
  refine loop_of (fun s => ∃ (A B : List (List D)) (T : Nat), ls = A ++ B ∧ T = A.flatten.length ∧ s.tm 0 = .d (.lst 1 (ls.map (D.lst 2))) ∧ s.tm 3 = .d (.c (.int .i64 T)) ∧ s.tm 9 = .d (.lst 1 (ls.map (D.lst 2))) ∧ s.tm 10 = .d (.c (.int .i64 ls.length)) ∧ s.tm 11 = .d (.c (.int .i64 A.length))) (fun s => ls.length - (avN (s.tm 11)).toNat) ?_ ?_
  · refine ⟨[], ls, 0, rfl, rfl, ?_⟩
    simp -dsimp -implicitDefEqProofs (disch := first | omega | (simp only [List.length_append, List.length_cons, List.length_nil, List.length_take, List.length_drop]; omega)) only [hml, List.length_nil, Int.natCast_zero, ↓aPre, aPost, oneW, allOne, retV, retVA, simprocAttr]
  rintro s ⟨A, B, T, hAB, hT, hs⟩
  have hlen : ls.length = A.length + B.length := by rw [hAB, List.length_append]
  cases B with
  | cons x B =>
    rw [List.length_cons] at hlen
    have hg : (ls.map (D.lst 2)).getD A.length default = .lst 2 x := by rw [hAB]; simp [List.getD]
    have ht : ls.flatten.length = T + x.length + B.flatten.length := by rw [hAB, hT]; simp; omega
    obtain ⟨T2, hT2⟩ : ∃ T2, T2 = T + x.length := ⟨_, rfl⟩
    have i1 : (T : Int) + (x.length : Int) = (T2 : Int) := by omega
    obtain ⟨k, hk⟩ : ∃ k, k = A.length := ⟨_, rfl⟩
    rw [← hk] at hs hg
    have i2 : (k : Int) + 1 = ((A ++ [x]).length : Int) := by rw [List.length_append, List.length_cons, List.length_nil]; omega
    obtain ⟨k2, hk2⟩ : ∃ k2, k2 = (A ++ [x]).length := ⟨_, rfl⟩
    rw [← hk2] at i2
    simp -dsimp -implicitDefEqProofs (disch := first | omega | (simp only [List.length_append, List.length_cons, List.length_nil, List.length_take, List.length_drop]; omega)) only [hs, hml, hg, i1, i2, ↓aPre, aPost, oneW, allOne, retV, retVA, simprocAttr]
    refine round_of ⟨A ++ [x], B, T2, by rw [hAB]; simp, by rw [hT2, hT]; simp, ?_⟩ ?_
    · rw [← hk2]
      simp -dsimp -implicitDefEqProofs (disch := first | omega | (simp only [List.length_append, List.length_cons, List.length_nil, List.length_take, List.length_drop]; omega)) only [hs, ↓aPre, aPost, oneW, allOne, retV, retVA, simprocAttr]
    · simp -dsimp -implicitDefEqProofs (disch := first | omega | (simp only [List.length_append, List.length_cons, List.length_nil, List.length_take, List.length_drop]; omega)) only [hs, ↓aPre, aPost, oneW, allOne, retV, retVA, simprocAttr]
      omega
  | nil =>
    rw [List.append_nil] at hAB
    subst hAB
    rw [List.length_nil, Nat.add_zero] at hlen
    simp -dsimp -implicitDefEqProofs (disch := first | omega | (simp only [List.length_append, List.length_cons, List.length_nil, List.length_take, List.length_drop]; omega)) only [hs, hml, ↓aPre, aPost, oneW, allOne, retV, retVA, simprocAttr]
    refine call_own (grow27 T (by omega)) ?_
    simp -dsimp -implicitDefEqProofs (disch := first | omega | (simp only [List.length_append, List.length_cons, List.length_nil, List.length_take, List.length_drop]; omega)) only [hs, hml, ↓aPre, aPost, oneW, allOne, retV, retVA, simprocAttr]
    refine loop_gh (Gh.cut (n := 24) (es := 2) (L := List.replicate T (.agg [.c (.int .i64 0), .c (.slice none 0 0)])) 0 (by simp -dsimp -implicitDefEqProofs (disch := first | omega | (simp only [List.length_append, List.length_cons, List.length_nil, List.length_take, List.length_drop]; omega)) only [↓aPre, aPost, oneW, allOne, retV, retVA, simprocAttr])) (fun s => ∃ (A B : List (List D)) (k : Nat), ls = A ++ B ∧ k = A.flatten.length ∧ s.tm 0 = .d (.lst 1 (ls.map (D.lst 2))) ∧ s.tm 6 = .sl 24 2 0 k ∧ s.tm 25 = .d (.lst 1 (ls.map (D.lst 2))) ∧ s.tm 26 = .d (.c (.int .i64 ls.length)) ∧ s.tm 27 = .d (.c (.int .i64 A.length)) ∧ s.hp 24 = some (.row 2 A.flatten)) (fun s => ls.length - (avN (s.tm 27)).toNat) ?_ ?_
    · refine ⟨[], ls, 0, rfl, rfl, ?_⟩
      simp -dsimp -implicitDefEqProofs (disch := first | omega | (simp only [List.length_append, List.length_cons, List.length_nil, List.length_take, List.length_drop]; omega)) only [hs, hml, List.length_nil, Int.natCast_zero, List.flatten_nil, List.take_zero, ↓aPre, aPost, oneW, allOne, retV, retVA, simprocAttr]
    clear hs hT hlen
    rintro s ⟨A, B, k, hAB, hk, hs⟩
    have hlen : ls.length = A.length + B.length := by rw [hAB, List.length_append]
    have hfl : ls.flatten.length = A.flatten.length + B.flatten.length := by rw [hAB]; simp
    cases B with
    | cons x B =>
      rw [List.length_cons] at hlen
      have hg : (ls.map (D.lst 2)).getD A.length default = .lst 2 x := by rw [hAB]; simp [List.getD]
      have ht : (A ++ [x]).flatten = A.flatten ++ x := by simp
      have hfx : (x :: B).flatten.length = x.length + B.flatten.length := by simp
      obtain ⟨q, hq⟩ : ∃ q, q = A.length := ⟨_, rfl⟩
      rw [← hq] at hs hg
      have i2 : (q : Int) + 1 = ((A ++ [x]).length : Int) := by rw [List.length_append, List.length_cons, List.length_nil]; omega
      obtain ⟨q2, hq2⟩ : ∃ q2, q2 = (A ++ [x]).length := ⟨_, rfl⟩
      rw [← hq2] at i2
      obtain ⟨W, hW⟩ : ∃ W, W = A.flatten := ⟨_, rfl⟩
      rw [← hW] at hs hk ht hfl
      subst hk
      simp -dsimp -implicitDefEqProofs (disch := first | omega | (simp only [List.length_append, List.length_cons, List.length_nil, List.length_take, List.length_drop]; omega)) only [hs, hml, hg, i2, ↓aPre, aPost, oneW, allOne, retV, retVA, simprocAttr]
      refine round_of ⟨A ++ [x], B, _, by rw [hAB]; simp, rfl, ?_⟩ ?_
      · rw [← hq2, ht]
        simp -dsimp -implicitDefEqProofs (disch := first | omega | (simp only [List.length_append, List.length_cons, List.length_nil, List.length_take, List.length_drop]; omega)) only [hs, List.length_append, ↓aPre, aPost, oneW, allOne, retV, retVA, simprocAttr]
      · simp -dsimp -implicitDefEqProofs (disch := first | omega | (simp only [List.length_append, List.length_cons, List.length_nil, List.length_take, List.length_drop]; omega)) only [hs, ↓aPre, aPost, oneW, allOne, retV, retVA, simprocAttr]
        omega
    | nil =>
      rw [List.append_nil] at hAB
      subst hAB
      rw [List.length_nil, Nat.add_zero] at hlen
      subst hk
      simp -dsimp -implicitDefEqProofs (disch := first | omega | (simp only [List.length_append, List.length_cons, List.length_nil, List.length_take, List.length_drop]; omega)) only [hs, hml, ↓aPre, aPost, oneW, allOne, retV, retVA, simprocAttr]
      exact own_of 24 _ _ (by decide) rfl (by simp -dsimp -implicitDefEqProofs (disch := first | omega | (simp only [List.length_append, List.length_cons, List.length_nil, List.length_take, List.length_drop]; omega)) only [hs, ↓aPre, aPost, oneW, allOne, retV, retVA, simprocAttr]) rfl ⟨rfl, rfl⟩
end Go.Proofs.Ytlchakkdgkbabaa
