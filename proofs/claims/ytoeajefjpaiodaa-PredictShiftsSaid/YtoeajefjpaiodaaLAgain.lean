/- Differences are undone, and what is undone has these differences: the law's walk and its plain law. No further condition. -/
import Derived.Test.YtoeajefjpaiodaaLRows
set_option linter.unusedSimpArgs false
set_option linter.unusedVariables false
namespace Go.Proofs.Ytoeajefjpaiodaa
open Go.Eng Go.RowKit
theorem errP_of {l l' : List Int} {per w : Int} (h : errP l per w = 0) (hl : l'.length = l.length) (hj : ∀ j, j < l'.length → l'.getD j 0 ≤ mkI w) : errP l' per w = 0 := by
  obtain ⟨h1, _⟩ := errP_ok h
  rw [errP, if_pos (by rw [hl]; exact h1), if_pos hj]
section
variable {l : List Int} {per w : Int} (hU : In 4294967296 l) (he : errP l per w = 0)
theorem undo_diff_at (hU : In 4294967296 l) (he : errP l per w = 0) : ∀ (i : Nat), i < l.length → unF (diffL l per w) per.toNat (mkI w + 1) i = l.getD i 0 := by
  obtain ⟨⟨hA, hB, hC⟩, hj⟩ := errP_ok he
  have hmk := mkI_pos hA
  intro i
  induction i using Nat.strongRecOn with
  | ind i ih =>
    intro hi
    have hz := hj i hi
    have hz0 := hU.get (by decide) i
    by_cases c : i < per.toNat
    · rw [unF_lt c, diffL, tab_get _ hi, difF, if_pos c]
    · rw [unF_ge (by omega) (by omega), ih (i - per.toNat) (by omega) (by omega), diffL, tab_get _ hi, difF, if_neg c, Int.emod_add_emod, Int.sub_add_cancel, Int.emod_eq_of_lt (by omega) (by omega)]
theorem diff_undo_at (hU : In 4294967296 l) (he : errP l per w = 0) (i : Nat) (hi : i < l.length) : difF (undoL l per w) per.toNat (mkI w + 1) i = l.getD i 0 := by
  obtain ⟨⟨hA, hB, hC⟩, hj⟩ := errP_ok he
  have hmk := mkI_pos hA
  have hz := hj i hi
  have hz0 := hU.get (by decide) i
  unfold difF
  split
  · rename_i c; rw [undoL, tab_get _ hi, unF_lt c]
  · rename_i c
    rw [undoL, tab_get _ hi, tab_get _ (by omega), unF_ge (by omega) (by omega), Int.sub_eq_add_neg, Int.emod_add_emod, ← Int.sub_eq_add_neg, Int.add_sub_cancel, Int.emod_eq_of_lt (by omega) (by omega)]
end
theorem diffL_in {l : List Int} {per w : Int} (hU : In 4294967296 l) (he : errP l per w = 0) : In (mkI w + 1) (diffL l per w) := by
  obtain ⟨⟨hA, hB, hC⟩, hj⟩ := errP_ok he
  have hmk := mkI_pos hA
  exact In.tab fun i hi => difF_in (by omega) (fun j h => by have := hj j h; have := hU.get (by decide) j; omega) i hi
theorem undoL_in {l : List Int} {per w : Int} (hU : In 4294967296 l) (he : errP l per w = 0) : In (mkI w + 1) (undoL l per w) := by
  obtain ⟨⟨hA, hB, hC⟩, hj⟩ := errP_ok he
  have hmk := mkI_pos hA
  exact In.tab fun i hi => unF_in (by omega) (fun j h => by have := hj j h; have := hU.get (by decide) j; omega) i hi
theorem predictAgain_giv (y0 : List Int) (h0 : (y0.length * 4 ≤ 140737488351232 ∧ ∀ z ∈ y0, 0 ≤ z ∧ z ≤ 4294967295)) (y1 : Int) (h1 : (-9223372036854775808 ≤ y1 ∧ y1 ≤ 9223372036854775807)) (y2 : Int) (h2 : (-9223372036854775808 ≤ y2 ∧ y2 ≤ 9223372036854775807)) : Giv Try.prog 5 [.lst 1 (li .u32 y0), .c (.int .i64 y1), .c (.int .i64 y2)] (.d (.c (.bool true))) := by
  have hU : In 4294967296 y0 := fun z hz => by have := h0.2 z hz; omega
  refine Giv.of (out := [.c (.bool true)]) mixed c5 (Nat.le_of_ble_eq_true rfl) ?_
  simp -dsimp -implicitDefEqProofs (disch := first | omega | (simp only [List.length_append, List.length_cons, List.length_nil, List.length_take, List.length_drop]; omega)) only [a5, ↓aPre, aPost, oneW, allOne, retV, retVA, ↓reduceIte, reduceCtorEq, Nat.reduceAdd, Nat.reduceSub, Nat.reduceMul, Nat.reduceLT, Nat.reduceLeDiff, Nat.reduceEqDiff, Nat.reduceDiv, Nat.reduceMod, Nat.reducePow, Int.reduceAdd, Int.reduceSub, Int.reduceMul, Int.reduceLT, Int.reduceLE, Int.reduceEq, Int.reduceNe, Int.reducePow, Int.reduceToNat, Int.reduceNeg]
  refine call_giv lives_giv ?_
  by_cases hl : 300 < y0.length
  · simp -dsimp -implicitDefEqProofs (disch := first | omega | (simp only [List.length_append, List.length_cons, List.length_nil, List.length_take, List.length_drop]; omega)) only [↓aPre, aPost, oneW, allOne, retV, retVA, ↓reduceIte, reduceCtorEq, Nat.reduceAdd, Nat.reduceSub, Nat.reduceMul, Nat.reduceLT, Nat.reduceLeDiff, Nat.reduceEqDiff, Nat.reduceDiv, Nat.reduceMod, Nat.reducePow, Int.reduceAdd, Int.reduceSub, Int.reduceMul, Int.reduceLT, Int.reduceLE, Int.reduceEq, Int.reduceNe, Int.reducePow, Int.reduceToNat, Int.reduceNeg]
    refine call_giv lives_giv ?_
    simp -dsimp -implicitDefEqProofs (disch := first | omega | (simp only [List.length_append, List.length_cons, List.length_nil, List.length_take, List.length_drop]; omega)) only [↓aPre, aPost, oneW, allOne, retV, retVA, ↓reduceIte, reduceCtorEq, Nat.reduceAdd, Nat.reduceSub, Nat.reduceMul, Nat.reduceLT, Nat.reduceLeDiff, Nat.reduceEqDiff, Nat.reduceDiv, Nat.reduceMod, Nat.reducePow, Int.reduceAdd, Int.reduceSub, Int.reduceMul, Int.reduceLT, Int.reduceLE, Int.reduceEq, Int.reduceNe, Int.reducePow, Int.reduceToNat, Int.reduceNeg]
    exact post_eq rfl
  simp -dsimp -implicitDefEqProofs (disch := first | omega | (simp only [List.length_append, List.length_cons, List.length_nil, List.length_take, List.length_drop]; omega)) only [↓aPre, aPost, oneW, allOne, retV, retVA, ↓reduceIte, reduceCtorEq, Nat.reduceAdd, Nat.reduceSub, Nat.reduceMul, Nat.reduceLT, Nat.reduceLeDiff, Nat.reduceEqDiff, Nat.reduceDiv, Nat.reduceMod, Nat.reducePow, Int.reduceAdd, Int.reduceSub, Int.reduceMul, Int.reduceLT, Int.reduceLE, Int.reduceEq, Int.reduceNe, Int.reducePow, Int.reduceToNat, Int.reduceNeg]
  refine call_giv (diff_giv y0 y1 y2 (by omega) hU h1) ?_
  have eb := errP_bound y0 y1 y2
  by_cases he : errP y0 y1 y2 = 0
  · obtain ⟨⟨hA, hB, hC⟩, hj⟩ := errP_ok he
    have hmk := mkI_pos hA
    simp -dsimp -implicitDefEqProofs (disch := first | omega | (simp only [List.length_append, List.length_cons, List.length_nil, List.length_take, List.length_drop]; omega)) only [diffD_ok he, ↓aPre, aPost, oneW, allOne, retV, retVA, ↓reduceIte, reduceCtorEq, Nat.reduceAdd, Nat.reduceSub, Nat.reduceMul, Nat.reduceLT, Nat.reduceLeDiff, Nat.reduceEqDiff, Nat.reduceDiv, Nat.reduceMod, Nat.reducePow, Int.reduceAdd, Int.reduceSub, Int.reduceMul, Int.reduceLT, Int.reduceLE, Int.reduceEq, Int.reduceNe, Int.reducePow, Int.reduceToNat, Int.reduceNeg]
    refine call_giv (undo_giv y0 y1 y2 (by omega) hU h1) ?_
    have hA1 := diffL_in hU he
    have hA2 := undoL_in hU he
    have hl1 := diffL_len y0 y1 y2
    have hl2 := undoL_len y0 y1 y2
    have he1 : errP (diffL y0 y1 y2) y1 y2 = 0 := errP_of he hl1 fun j _ => by have := hA1.get (by omega) j; omega
    have he2 : errP (undoL y0 y1 y2) y1 y2 = 0 := errP_of he hl2 fun j _ => by have := hA2.get (by omega) j; omega
    have q1 : undoL (diffL y0 y1 y2) y1 y2 = y0 := by
      rw [undoL, hl1]
      exact (list_tab rfl fun i hi => (undo_diff_at hU he i hi).symm).symm
    have q2 : diffL (undoL y0 y1 y2) y1 y2 = y0 := by
      rw [diffL, hl2]
      exact (list_tab rfl fun i hi => (diff_undo_at hU he i hi).symm).symm
    simp -dsimp -implicitDefEqProofs (disch := first | omega | (simp only [List.length_append, List.length_cons, List.length_nil, List.length_take, List.length_drop]; omega)) only [undoD_ok he, ↓aPre, aPost, oneW, allOne, retV, retVA, ↓reduceIte, reduceCtorEq, Nat.reduceAdd, Nat.reduceSub, Nat.reduceMul, Nat.reduceLT, Nat.reduceLeDiff, Nat.reduceEqDiff, Nat.reduceDiv, Nat.reduceMod, Nat.reducePow, Int.reduceAdd, Int.reduceSub, Int.reduceMul, Int.reduceLT, Int.reduceLE, Int.reduceEq, Int.reduceNe, Int.reducePow, Int.reduceToNat, Int.reduceNeg]
    refine call_giv (undo_giv _ y1 y2 (by omega) (hA1.mono (by omega)) h1) ?_
    simp -dsimp -implicitDefEqProofs (disch := first | omega | (simp only [List.length_append, List.length_cons, List.length_nil, List.length_take, List.length_drop]; omega)) only [undoD_ok he1, q1, ↓aPre, aPost, oneW, allOne, retV, retVA, ↓reduceIte, reduceCtorEq, Nat.reduceAdd, Nat.reduceSub, Nat.reduceMul, Nat.reduceLT, Nat.reduceLeDiff, Nat.reduceEqDiff, Nat.reduceDiv, Nat.reduceMod, Nat.reducePow, Int.reduceAdd, Int.reduceSub, Int.reduceMul, Int.reduceLT, Int.reduceLE, Int.reduceEq, Int.reduceNe, Int.reducePow, Int.reduceToNat, Int.reduceNeg]
    refine call_giv (diff_giv _ y1 y2 (by omega) (hA2.mono (by omega)) h1) ?_
    simp -dsimp -implicitDefEqProofs (disch := first | omega | (simp only [List.length_append, List.length_cons, List.length_nil, List.length_take, List.length_drop]; omega)) only [diffD_ok he2, q1, q2, ↓aPre, aPost, oneW, allOne, retV, retVA, ↓reduceIte, reduceCtorEq, Nat.reduceAdd, Nat.reduceSub, Nat.reduceMul, Nat.reduceLT, Nat.reduceLeDiff, Nat.reduceEqDiff, Nat.reduceDiv, Nat.reduceMod, Nat.reducePow, Int.reduceAdd, Int.reduceSub, Int.reduceMul, Int.reduceLT, Int.reduceLE, Int.reduceEq, Int.reduceNe, Int.reducePow, Int.reduceToNat, Int.reduceNeg]
    refine call_giv (same_t _ (by omega)) ?_
    simp -dsimp -implicitDefEqProofs (disch := first | omega | (simp only [List.length_append, List.length_cons, List.length_nil, List.length_take, List.length_drop]; omega)) only [q1, q2, ↓aPre, aPost, oneW, allOne, retV, retVA, ↓reduceIte, reduceCtorEq, Nat.reduceAdd, Nat.reduceSub, Nat.reduceMul, Nat.reduceLT, Nat.reduceLeDiff, Nat.reduceEqDiff, Nat.reduceDiv, Nat.reduceMod, Nat.reducePow, Int.reduceAdd, Int.reduceSub, Int.reduceMul, Int.reduceLT, Int.reduceLE, Int.reduceEq, Int.reduceNe, Int.reducePow, Int.reduceToNat, Int.reduceNeg]
    refine call_giv (same_t _ (by omega)) ?_
    by_cases hn : y0.length = 0
    · simp -dsimp -implicitDefEqProofs (disch := first | omega | (simp only [List.length_append, List.length_cons, List.length_nil, List.length_take, List.length_drop]; omega)) only [q1, q2, ↓aPre, aPost, oneW, allOne, retV, retVA, ↓reduceIte, reduceCtorEq, Nat.reduceAdd, Nat.reduceSub, Nat.reduceMul, Nat.reduceLT, Nat.reduceLeDiff, Nat.reduceEqDiff, Nat.reduceDiv, Nat.reduceMod, Nat.reducePow, Int.reduceAdd, Int.reduceSub, Int.reduceMul, Int.reduceLT, Int.reduceLE, Int.reduceEq, Int.reduceNe, Int.reducePow, Int.reduceToNat, Int.reduceNeg]
      exact post_eq rfl
    obtain ⟨x, hx⟩ : ∃ x, x = y0.getD 0 0 := ⟨_, rfl⟩
    have hx1 := hj 0 (by omega)
    have hx2 := hU.get (by decide) 0
    rw [← hx] at hx1 hx2
    obtain ⟨n, hn2⟩ : ∃ n, n = y0.length := ⟨_, rfl⟩
    simp -dsimp -implicitDefEqProofs (disch := first | omega | (simp only [List.length_append, List.length_cons, List.length_nil, List.length_take, List.length_drop]; omega)) only [q1, q2, ↓aPre, aPost, oneW, allOne, retV, retVA, ↓reduceIte, reduceCtorEq, Nat.reduceAdd, Nat.reduceSub, Nat.reduceMul, Nat.reduceLT, Nat.reduceLeDiff, Nat.reduceEqDiff, Nat.reduceDiv, Nat.reduceMod, Nat.reducePow, Int.reduceAdd, Int.reduceSub, Int.reduceMul, Int.reduceLT, Int.reduceLE, Int.reduceEq, Int.reduceNe, Int.reducePow, Int.reduceToNat, Int.reduceNeg]
    refine loop_of (fun s => ∃ (k : Nat), k ≤ n ∧ s.tm 95 = .d (.c (.int .i64 k)) ∧ s.tm 94 = .d (.c (.int .i64 n)) ∧ s.tm 0 = .d (.lst 1 (li .u32 y0)) ∧ s.tm 1 = .d (.c (.int .i64 y1)) ∧ s.tm 2 = .d (.c (.int .i64 y2)) ∧ s.tm 15 = .sl 92 1 0 n ∧ s.hp 92 = some (.row 1 (li .u32 (tab (fun j => if j < k then x else 0) n)))) (fun s => (n - (avN (s.tm 95)).toNat)) ?_ ?_
    · refine ⟨0, Nat.zero_le _, ?_⟩
      have e0 : tab (fun j => if j < 0 then x else 0) n = List.replicate n 0 := by rw [rep_tab]; exact tab_congr _ fun j _ => if_neg (by omega)
      rw [hn2] at e0
      simp -dsimp -implicitDefEqProofs (disch := first | omega | (simp only [List.length_append, List.length_cons, List.length_nil, List.length_take, List.length_drop]; omega)) only [hn2, e0, Int.natCast_zero, ↓aPre, aPost, oneW, allOne, retV, retVA, ↓reduceIte, reduceCtorEq, Nat.reduceAdd, Nat.reduceSub, Nat.reduceMul, Nat.reduceLT, Nat.reduceLeDiff, Nat.reduceEqDiff, Nat.reduceDiv, Nat.reduceMod, Nat.reducePow, Int.reduceAdd, Int.reduceSub, Int.reduceMul, Int.reduceLT, Int.reduceLE, Int.reduceEq, Int.reduceNe, Int.reducePow, Int.reduceToNat, Int.reduceNeg]
    rintro s ⟨k, hk, hs⟩
    have el := tab_len (fun j => if j < k then x else 0) n
    by_cases hlt : k < n
    · have es : (tab (fun j => if j < k then x else 0) n).set k x = tab (fun j => if j < k + 1 then x else 0) n := by
        rw [tab_set _ hlt]
        refine tab_congr _ fun j hj => ?_
        by_cases c : j = k
        · rw [if_pos c, if_pos (by omega)]
        · rw [if_neg c]
          by_cases c2 : j < k
          · rw [if_pos c2, if_pos (by omega)]
          · rw [if_neg c2, if_neg (by omega)]
      simp -dsimp -implicitDefEqProofs (disch := first | omega | (simp only [List.length_append, List.length_cons, List.length_nil, List.length_take, List.length_drop]; omega)) only [hs, el, ← hx, ↓aPre, aPost, oneW, allOne, retV, retVA, ↓reduceIte, reduceCtorEq, Nat.reduceAdd, Nat.reduceSub, Nat.reduceMul, Nat.reduceLT, Nat.reduceLeDiff, Nat.reduceEqDiff, Nat.reduceDiv, Nat.reduceMod, Nat.reducePow, Int.reduceAdd, Int.reduceSub, Int.reduceMul, Int.reduceLT, Int.reduceLE, Int.reduceEq, Int.reduceNe, Int.reducePow, Int.reduceToNat, Int.reduceNeg]
      refine round_of ⟨k + 1, by omega, ?_⟩ ?_
      · simp -dsimp -implicitDefEqProofs (disch := first | omega | (simp only [List.length_append, List.length_cons, List.length_nil, List.length_take, List.length_drop]; omega)) only [hs, el, ← hx, es, ↓aPre, aPost, oneW, allOne, retV, retVA, ↓reduceIte, reduceCtorEq, Nat.reduceAdd, Nat.reduceSub, Nat.reduceMul, Nat.reduceLT, Nat.reduceLeDiff, Nat.reduceEqDiff, Nat.reduceDiv, Nat.reduceMod, Nat.reducePow, Int.reduceAdd, Int.reduceSub, Int.reduceMul, Int.reduceLT, Int.reduceLE, Int.reduceEq, Int.reduceNe, Int.reducePow, Int.reduceToNat, Int.reduceNeg]
      · simp -dsimp -implicitDefEqProofs (disch := first | omega | (simp only [List.length_append, List.length_cons, List.length_nil, List.length_take, List.length_drop]; omega)) only [hs, ↓aPre, aPost, oneW, allOne, retV, retVA, ↓reduceIte, reduceCtorEq, Nat.reduceAdd, Nat.reduceSub, Nat.reduceMul, Nat.reduceLT, Nat.reduceLeDiff, Nat.reduceEqDiff, Nat.reduceDiv, Nat.reduceMod, Nat.reducePow, Int.reduceAdd, Int.reduceSub, Int.reduceMul, Int.reduceLT, Int.reduceLE, Int.reduceEq, Int.reduceNe, Int.reducePow, Int.reduceToNat, Int.reduceNeg]
        omega
    · obtain rfl : k = n := by omega
      obtain ⟨a, ha⟩ : ∃ a, a = tab (fun j => if j < k then x else 0) k := ⟨_, rfl⟩
      have hag : ∀ j, j < k → a.getD j 0 = x := fun j hj => by rw [ha, tab_get _ hj, if_pos hj]
      rw [← ha] at hs el
      have hain : In 4294967296 a := by rw [ha]; exact In.tab fun i hi => by rw [if_pos hi]; omega
      have hea : errP a y1 y2 = 0 := errP_of he (by omega) fun j hj => by rw [hag j (by omega)]; omega
      simp -dsimp -implicitDefEqProofs (disch := first | omega | (simp only [List.length_append, List.length_cons, List.length_nil, List.length_take, List.length_drop]; omega)) only [hs, el, ↓aPre, aPost, oneW, allOne, retV, retVA, ↓reduceIte, reduceCtorEq, Nat.reduceAdd, Nat.reduceSub, Nat.reduceMul, Nat.reduceLT, Nat.reduceLeDiff, Nat.reduceEqDiff, Nat.reduceDiv, Nat.reduceMod, Nat.reducePow, Int.reduceAdd, Int.reduceSub, Int.reduceMul, Int.reduceLT, Int.reduceLE, Int.reduceEq, Int.reduceNe, Int.reducePow, Int.reduceToNat, Int.reduceNeg]
      refine call_giv (diff_giv a y1 y2 (by omega) hain h1) ?_
      have hla := diffL_len a y1 y2
      obtain ⟨p, rfl⟩ : ∃ p : Nat, y1 = p := ⟨y1.toNat, by omega⟩
      simp -dsimp -implicitDefEqProofs (disch := first | omega | (simp only [List.length_append, List.length_cons, List.length_nil, List.length_take, List.length_drop]; omega)) only [hs, diffD_ok hea, hla, el, ↓aPre, aPost, oneW, allOne, retV, retVA, ↓reduceIte, reduceCtorEq, Nat.reduceAdd, Nat.reduceSub, Nat.reduceMul, Nat.reduceLT, Nat.reduceLeDiff, Nat.reduceEqDiff, Nat.reduceDiv, Nat.reduceMod, Nat.reducePow, Int.reduceAdd, Int.reduceSub, Int.reduceMul, Int.reduceLT, Int.reduceLE, Int.reduceEq, Int.reduceNe, Int.reducePow, Int.reduceToNat, Int.reduceNeg]
      refine loop_of (fun s => ∃ (i : Nat), i ≤ k ∧ s.tm 114 = .d (.c (.int .i64 i)) ∧ s.tm 113 = .d (.c (.int .i64 k)) ∧ s.tm 0 = .d (.lst 1 (li .u32 y0)) ∧ s.tm 1 = .d (.c (.int .i64 p)) ∧ s.tm 17 = .d (.lst 1 (li .u32 (diffL a p y2))) ∧ s.tm 18 = .d (.c (.int .i64 0))) (fun s => (k - (avN (s.tm 114)).toNat)) ?_ ?_
      · refine ⟨0, Nat.zero_le _, ?_⟩
        simp -dsimp -implicitDefEqProofs (disch := first | omega | (simp only [List.length_append, List.length_cons, List.length_nil, List.length_take, List.length_drop]; omega)) only [hs, diffD_ok hea, hla, el, Int.natCast_zero, ↓aPre, aPost, oneW, allOne, retV, retVA, ↓reduceIte, reduceCtorEq, Nat.reduceAdd, Nat.reduceSub, Nat.reduceMul, Nat.reduceLT, Nat.reduceLeDiff, Nat.reduceEqDiff, Nat.reduceDiv, Nat.reduceMod, Nat.reducePow, Int.reduceAdd, Int.reduceSub, Int.reduceMul, Int.reduceLT, Int.reduceLE, Int.reduceEq, Int.reduceNe, Int.reducePow, Int.reduceToNat, Int.reduceNeg]
      rintro s2 ⟨i, hi, hs2⟩
      by_cases hik : i < k
      · have hg : (diffL a p y2).getD i 0 = if i < p then x else 0 := by
          rw [diffL, tab_get _ (by omega), difF, Int.toNat_natCast, hag i hik]
          split
          · rfl
          · rw [hag _ (by omega), Int.sub_self, Int.zero_emod]
        by_cases c : i < p
        · rw [if_pos c] at hg
          simp -dsimp -implicitDefEqProofs (disch := first | omega | (simp only [List.length_append, List.length_cons, List.length_nil, List.length_take, List.length_drop]; omega)) only [hs2, hg, hla, el, ← hx, ↓aPre, aPost, oneW, allOne, retV, retVA, ↓reduceIte, reduceCtorEq, Nat.reduceAdd, Nat.reduceSub, Nat.reduceMul, Nat.reduceLT, Nat.reduceLeDiff, Nat.reduceEqDiff, Nat.reduceDiv, Nat.reduceMod, Nat.reducePow, Int.reduceAdd, Int.reduceSub, Int.reduceMul, Int.reduceLT, Int.reduceLE, Int.reduceEq, Int.reduceNe, Int.reducePow, Int.reduceToNat, Int.reduceNeg]
          refine round_of ⟨i + 1, by omega, ?_⟩ ?_
          · simp -dsimp -implicitDefEqProofs (disch := first | omega | (simp only [List.length_append, List.length_cons, List.length_nil, List.length_take, List.length_drop]; omega)) only [hs2, ↓aPre, aPost, oneW, allOne, retV, retVA, ↓reduceIte, reduceCtorEq, Nat.reduceAdd, Nat.reduceSub, Nat.reduceMul, Nat.reduceLT, Nat.reduceLeDiff, Nat.reduceEqDiff, Nat.reduceDiv, Nat.reduceMod, Nat.reducePow, Int.reduceAdd, Int.reduceSub, Int.reduceMul, Int.reduceLT, Int.reduceLE, Int.reduceEq, Int.reduceNe, Int.reducePow, Int.reduceToNat, Int.reduceNeg]
          · simp -dsimp -implicitDefEqProofs (disch := first | omega | (simp only [List.length_append, List.length_cons, List.length_nil, List.length_take, List.length_drop]; omega)) only [hs2, ↓aPre, aPost, oneW, allOne, retV, retVA, ↓reduceIte, reduceCtorEq, Nat.reduceAdd, Nat.reduceSub, Nat.reduceMul, Nat.reduceLT, Nat.reduceLeDiff, Nat.reduceEqDiff, Nat.reduceDiv, Nat.reduceMod, Nat.reducePow, Int.reduceAdd, Int.reduceSub, Int.reduceMul, Int.reduceLT, Int.reduceLE, Int.reduceEq, Int.reduceNe, Int.reducePow, Int.reduceToNat, Int.reduceNeg]
            omega
        · rw [if_neg c] at hg
          simp -dsimp -implicitDefEqProofs (disch := first | omega | (simp only [List.length_append, List.length_cons, List.length_nil, List.length_take, List.length_drop]; omega)) only [hs2, hg, hla, el, ← hx, ↓aPre, aPost, oneW, allOne, retV, retVA, ↓reduceIte, reduceCtorEq, Nat.reduceAdd, Nat.reduceSub, Nat.reduceMul, Nat.reduceLT, Nat.reduceLeDiff, Nat.reduceEqDiff, Nat.reduceDiv, Nat.reduceMod, Nat.reducePow, Int.reduceAdd, Int.reduceSub, Int.reduceMul, Int.reduceLT, Int.reduceLE, Int.reduceEq, Int.reduceNe, Int.reducePow, Int.reduceToNat, Int.reduceNeg]
          refine round_of ⟨i + 1, by omega, ?_⟩ ?_
          · simp -dsimp -implicitDefEqProofs (disch := first | omega | (simp only [List.length_append, List.length_cons, List.length_nil, List.length_take, List.length_drop]; omega)) only [hs2, ↓aPre, aPost, oneW, allOne, retV, retVA, ↓reduceIte, reduceCtorEq, Nat.reduceAdd, Nat.reduceSub, Nat.reduceMul, Nat.reduceLT, Nat.reduceLeDiff, Nat.reduceEqDiff, Nat.reduceDiv, Nat.reduceMod, Nat.reducePow, Int.reduceAdd, Int.reduceSub, Int.reduceMul, Int.reduceLT, Int.reduceLE, Int.reduceEq, Int.reduceNe, Int.reducePow, Int.reduceToNat, Int.reduceNeg]
          · simp -dsimp -implicitDefEqProofs (disch := first | omega | (simp only [List.length_append, List.length_cons, List.length_nil, List.length_take, List.length_drop]; omega)) only [hs2, ↓aPre, aPost, oneW, allOne, retV, retVA, ↓reduceIte, reduceCtorEq, Nat.reduceAdd, Nat.reduceSub, Nat.reduceMul, Nat.reduceLT, Nat.reduceLeDiff, Nat.reduceEqDiff, Nat.reduceDiv, Nat.reduceMod, Nat.reducePow, Int.reduceAdd, Int.reduceSub, Int.reduceMul, Int.reduceLT, Int.reduceLE, Int.reduceEq, Int.reduceNe, Int.reducePow, Int.reduceToNat, Int.reduceNeg]
            omega
      · simp -dsimp -implicitDefEqProofs (disch := first | omega | (simp only [List.length_append, List.length_cons, List.length_nil, List.length_take, List.length_drop]; omega)) only [hs2, hla, el, hn2, ↓aPre, aPost, oneW, allOne, retV, retVA, ↓reduceIte, reduceCtorEq, Nat.reduceAdd, Nat.reduceSub, Nat.reduceMul, Nat.reduceLT, Nat.reduceLeDiff, Nat.reduceEqDiff, Nat.reduceDiv, Nat.reduceMod, Nat.reducePow, Int.reduceAdd, Int.reduceSub, Int.reduceMul, Int.reduceLT, Int.reduceLE, Int.reduceEq, Int.reduceNe, Int.reducePow, Int.reduceToNat, Int.reduceNeg]
        exact post_eq rfl
  · simp -dsimp -implicitDefEqProofs (disch := first | omega | (simp only [List.length_append, List.length_cons, List.length_nil, List.length_take, List.length_drop]; omega)) only [diffD_err he, ↓aPre, aPost, oneW, allOne, retV, retVA, ↓reduceIte, reduceCtorEq, Nat.reduceAdd, Nat.reduceSub, Nat.reduceMul, Nat.reduceLT, Nat.reduceLeDiff, Nat.reduceEqDiff, Nat.reduceDiv, Nat.reduceMod, Nat.reducePow, Int.reduceAdd, Int.reduceSub, Int.reduceMul, Int.reduceLT, Int.reduceLE, Int.reduceEq, Int.reduceNe, Int.reducePow, Int.reduceToNat, Int.reduceNeg]
    refine call_giv (undo_giv y0 y1 y2 (by omega) hU h1) ?_
    simp -dsimp -implicitDefEqProofs (disch := first | omega | (simp only [List.length_append, List.length_cons, List.length_nil, List.length_take, List.length_drop]; omega)) only [undoD_err he, he, ↓aPre, aPost, oneW, allOne, retV, retVA, ↓reduceIte, reduceCtorEq, Nat.reduceAdd, Nat.reduceSub, Nat.reduceMul, Nat.reduceLT, Nat.reduceLeDiff, Nat.reduceEqDiff, Nat.reduceDiv, Nat.reduceMod, Nat.reducePow, Int.reduceAdd, Int.reduceSub, Int.reduceMul, Int.reduceLT, Int.reduceLE, Int.reduceEq, Int.reduceNe, Int.reducePow, Int.reduceToNat, Int.reduceNeg]
    exact post_eq rfl
end Go.Proofs.Ytoeajefjpaiodaa
