/- Differences and their undoing, and the reference's. No condition but what each says. -/
import Derived.Test.YtoeajefjpaiodaaWFits
set_option linter.unusedSimpArgs false
set_option linter.unusedVariables false
namespace Go.Proofs.Ytoeajefjpaiodaa
open Go.Eng Go.RowKit
theorem errP_ok {l : List Int} {per w : Int} (h : errP l per w = 0) : okA l.length per w ∧ ∀ j, j < l.length → l.getD j 0 ≤ mkI w := by
  unfold errP at h
  split at h
  · rename_i h1
    refine ⟨h1, ?_⟩
    split at h
    · assumption
    · cases h
  · cases h
theorem mkI_pos {w : Int} (h : wid w) : 255 ≤ mkI w ∧ mkI w ≤ 4294967295 := by
  rcases h with rfl | rfl | rfl <;> decide
theorem and_mod {w : Int} (h : wid w) (x : Int) : bits .and .u32 (IntKind.u32.wrap x) (mkI w) = x % (mkI w + 1) := by
  have e : IntKind.u32.wrap x = x % 4294967296 := by simp [IntKind.wrap, IntKind.signed, IntKind.bits]
  obtain ⟨q, hq⟩ : ∃ q : Nat, x % 4294967296 = q := ⟨(x % 4294967296).toNat, by omega⟩
  have hm := mkI_pos h
  rw [e, u32_and _ _ (by omega) (by omega) (by omega) (by omega), hq, Int.toNat_natCast]
  rcases h with rfl | rfl | rfl
  · rw [show mkI 8 = 255 from rfl, show (255 : Int).toNat = 2 ^ 8 - 1 from rfl, Nat.and_two_pow_sub_one_eq_mod]; omega
  · rw [show mkI 16 = 65535 from rfl, show (65535 : Int).toNat = 2 ^ 16 - 1 from rfl, Nat.and_two_pow_sub_one_eq_mod]; omega
  · rw [show mkI 32 = 4294967295 from rfl, show (4294967295 : Int).toNat = 2 ^ 32 - 1 from rfl, Nat.and_two_pow_sub_one_eq_mod]; omega
def difF (l : List Int) (p : Nat) (M : Int) (i : Nat) : Int := if i < p then l.getD i 0 else (l.getD i 0 - l.getD (i - p) 0) % M
def unF (l : List Int) (p : Nat) (M : Int) (i : Nat) : Int := if h : 0 < p ∧ p ≤ i then (l.getD i 0 + unF l p M (i - p)) % M else l.getD i 0
termination_by i
decreasing_by omega
theorem unF_lt {l : List Int} {p : Nat} {M : Int} {i : Nat} (h : i < p) : unF l p M i = l.getD i 0 := by rw [unF, dif_neg (by omega)]
theorem unF_ge {l : List Int} {p : Nat} {M : Int} {i : Nat} (h0 : 0 < p) (h : p ≤ i) : unF l p M i = (l.getD i 0 + unF l p M (i - p)) % M := by rw [unF, dif_pos ⟨h0, h⟩]
theorem difF_in {l : List Int} {p : Nat} {M : Int} {n : Nat} (hM : 0 < M) (h : ∀ j, j < n → 0 ≤ l.getD j 0 ∧ l.getD j 0 < M) (i : Nat) (hi : i < n) : 0 ≤ difF l p M i ∧ difF l p M i < M := by
  unfold difF
  split
  · exact h i hi
  · exact ⟨Int.emod_nonneg _ (by omega), Int.emod_lt_of_pos _ hM⟩
theorem unF_in {l : List Int} {p : Nat} {M : Int} {n : Nat} (hM : 0 < M) (h : ∀ j, j < n → 0 ≤ l.getD j 0 ∧ l.getD j 0 < M) (i : Nat) (hi : i < n) : 0 ≤ unF l p M i ∧ unF l p M i < M := by
  unfold unF
  split
  · exact ⟨Int.emod_nonneg _ (by omega), Int.emod_lt_of_pos _ hM⟩
  · exact h i hi
def diffL (l : List Int) (per w : Int) : List Int := tab (difF l per.toNat (mkI w + 1)) l.length
def undoL (l : List Int) (per w : Int) : List Int := tab (unF l per.toNat (mkI w + 1)) l.length
def diffD (l : List Int) (per w : Int) : List D := if errP l per w = 0 then [.lst 1 (li .u32 (diffL l per w)), .c (.int .i64 0)] else [.lst 1 [], .c (.int .i64 (errP l per w))]
def undoD (l : List Int) (per w : Int) : List D := if errP l per w = 0 then [.lst 1 (li .u32 (undoL l per w)), .c (.int .i64 0)] else [.lst 1 [], .c (.int .i64 (errP l per w))]
def dst (l : List Int) (p : Nat) (M : Int) (k : Nat) (j : Nat) : Int := if k ≤ j then difF l p M j else l.getD j 0
def ust (l : List Int) (p : Nat) (M : Int) (k : Nat) (j : Nat) : Int := if j < k then unF l p M j else l.getD j 0
theorem fitsD_ok {l : List Int} {per w : Int} (h : errP l per w = 0) : fitsD l per w = [.c (.int .u32 (mkI w)), .c (.int .i64 0)] := by rw [fitsD, h]; rfl
theorem fitsD_err {l : List Int} {per w : Int} (h : ¬ errP l per w = 0) : fitsD l per w = [.c (.int .u32 0), .c (.int .i64 (errP l per w))] := by rw [fitsD, if_neg h]
theorem diff_giv (l : List Int) (per w : Int) (hl : l.length ≤ 1000000) (hU : In 4294967296 l) (hp : -9223372036854775808 ≤ per ∧ per ≤ 9223372036854775807) : Giv Try.prog 8 [.lst 1 (li .u32 l), .c (.int .i64 per), .c (.int .i64 w)] (retV (diffD l per w)) := by
  refine Giv.of mixed c8 (Nat.le_of_ble_eq_true rfl) ?_
  simp -dsimp -implicitDefEqProofs (disch := first | omega | (simp only [List.length_append, List.length_cons, List.length_nil, List.length_take, List.length_drop]; omega)) only [a8, ↓aPre, aPost, oneW, allOne, retV, retVA, ↓reduceIte, reduceCtorEq, Nat.reduceAdd, Nat.reduceSub, Nat.reduceMul, Nat.reduceLT, Nat.reduceLeDiff, Nat.reduceEqDiff, Nat.reduceDiv, Nat.reduceMod, Nat.reducePow, Int.reduceAdd, Int.reduceSub, Int.reduceMul, Int.reduceLT, Int.reduceLE, Int.reduceEq, Int.reduceNe, Int.reducePow, Int.reduceToNat, Int.reduceNeg]
  refine call_giv (fits_giv l per w (by omega)) ?_
  by_cases he : errP l per w = 0
  · obtain ⟨⟨hA, hB, hC⟩, hj⟩ := errP_ok he
    rw [diffD, if_pos he]
    obtain ⟨p, rfl⟩ : ∃ p : Nat, per = p := ⟨per.toNat, by omega⟩
    obtain ⟨n, hn⟩ : ∃ n, n = l.length := ⟨_, rfl⟩
    obtain ⟨M, hM⟩ : ∃ M, M = mkI w + 1 := ⟨_, rfl⟩
    simp -dsimp -implicitDefEqProofs (disch := first | omega | (simp only [List.length_append, List.length_cons, List.length_nil, List.length_take, List.length_drop]; omega)) only [fitsD_ok he, ↓aPre, aPost, oneW, allOne, retV, retVA, ↓reduceIte, reduceCtorEq, Nat.reduceAdd, Nat.reduceSub, Nat.reduceMul, Nat.reduceLT, Nat.reduceLeDiff, Nat.reduceEqDiff, Nat.reduceDiv, Nat.reduceMod, Nat.reducePow, Int.reduceAdd, Int.reduceSub, Int.reduceMul, Int.reduceLT, Int.reduceLE, Int.reduceEq, Int.reduceNe, Int.reducePow, Int.reduceToNat, Int.reduceNeg]
    refine loop_of (fun s => ∃ (k : Nat), k ≤ n ∧ s.tm 11 = .d (.c (.int .i64 ((k : Int) - 1))) ∧ s.tm 1 = .d (.c (.int .i64 p)) ∧ s.tm 8 = .d (.c (.int .u32 (mkI w))) ∧ s.tm 10 = .sl 22 1 0 n ∧ s.hp 22 = some (.row 1 (li .u32 (tab (dst l p M k) n)))) (fun s => (avN (s.tm 11) + 1).toNat) ?_ ?_
    · refine ⟨n, Nat.le_refl _, ?_⟩
      have e0 : tab (dst l p M n) n = l := (list_tab hn.symm fun i hi => by rw [dst, if_neg (by omega)]).symm
      rw [hn] at e0
      simp -dsimp -implicitDefEqProofs (disch := first | omega | (simp only [List.length_append, List.length_cons, List.length_nil, List.length_take, List.length_drop]; omega)) only [e0, hn, ↓aPre, aPost, oneW, allOne, retV, retVA, ↓reduceIte, reduceCtorEq, Nat.reduceAdd, Nat.reduceSub, Nat.reduceMul, Nat.reduceLT, Nat.reduceLeDiff, Nat.reduceEqDiff, Nat.reduceDiv, Nat.reduceMod, Nat.reducePow, Int.reduceAdd, Int.reduceSub, Int.reduceMul, Int.reduceLT, Int.reduceLE, Int.reduceEq, Int.reduceNe, Int.reducePow, Int.reduceToNat, Int.reduceNeg]
    rintro s ⟨k, hk, hs⟩
    have el := tab_len (dst l p M k) n
    by_cases hlt : p < k
    · have e1 : ((k : Int) - 1).toNat = k - 1 := by omega
      have e2 : ((k : Int) - 1 - (p : Int)).toNat = k - 1 - p := by omega
      have g1 : (tab (dst l p M k) n).getD (k - 1) 0 = l.getD (k - 1) 0 := by rw [tab_get _ (by omega), dst, if_neg (by omega)]
      have g2 : (tab (dst l p M k) n).getD (k - 1 - p) 0 = l.getD (k - 1 - p) 0 := by rw [tab_get _ (by omega), dst, if_neg (by omega)]
      have ev : (l.getD (k - 1) 0 - l.getD (k - 1 - p) 0) % (mkI w + 1) = difF l p M (k - 1) := by rw [difF, if_neg (by omega), hM]
      have es : (tab (dst l p M k) n).set (k - 1) (difF l p M (k - 1)) = tab (dst l p M (k - 1)) n := by
        rw [tab_set _ (by omega)]
        refine tab_congr n fun j hj => ?_
        unfold dst
        by_cases c : j = k - 1
        · subst c; rw [if_pos rfl, if_pos (Nat.le_refl _)]
        · rw [if_neg c]
          by_cases c2 : k ≤ j
          · rw [if_pos c2, if_pos (by omega)]
          · rw [if_neg c2, if_neg (by omega)]
      simp -dsimp -implicitDefEqProofs (disch := first | omega | (simp only [List.length_append, List.length_cons, List.length_nil, List.length_take, List.length_drop]; omega)) only [hs, e1, e2, g1, g2, and_mod hA, ev, el, ↓aPre, aPost, oneW, allOne, retV, retVA, ↓reduceIte, reduceCtorEq, Nat.reduceAdd, Nat.reduceSub, Nat.reduceMul, Nat.reduceLT, Nat.reduceLeDiff, Nat.reduceEqDiff, Nat.reduceDiv, Nat.reduceMod, Nat.reducePow, Int.reduceAdd, Int.reduceSub, Int.reduceMul, Int.reduceLT, Int.reduceLE, Int.reduceEq, Int.reduceNe, Int.reducePow, Int.reduceToNat, Int.reduceNeg]
      refine round_of ⟨k - 1, by omega, ?_⟩ ?_
      · have e3 : ((k - 1 : Nat) : Int) = (k : Int) - 1 := by omega
        simp -dsimp -implicitDefEqProofs (disch := first | omega | (simp only [List.length_append, List.length_cons, List.length_nil, List.length_take, List.length_drop]; omega)) only [hs, e1, e2, g1, g2, and_mod hA, ev, el, es, e3, ↓aPre, aPost, oneW, allOne, retV, retVA, ↓reduceIte, reduceCtorEq, Nat.reduceAdd, Nat.reduceSub, Nat.reduceMul, Nat.reduceLT, Nat.reduceLeDiff, Nat.reduceEqDiff, Nat.reduceDiv, Nat.reduceMod, Nat.reducePow, Int.reduceAdd, Int.reduceSub, Int.reduceMul, Int.reduceLT, Int.reduceLE, Int.reduceEq, Int.reduceNe, Int.reducePow, Int.reduceToNat, Int.reduceNeg]
      · simp -dsimp -implicitDefEqProofs (disch := first | omega | (simp only [List.length_append, List.length_cons, List.length_nil, List.length_take, List.length_drop]; omega)) only [hs, ↓aPre, aPost, oneW, allOne, retV, retVA, ↓reduceIte, reduceCtorEq, Nat.reduceAdd, Nat.reduceSub, Nat.reduceMul, Nat.reduceLT, Nat.reduceLeDiff, Nat.reduceEqDiff, Nat.reduceDiv, Nat.reduceMod, Nat.reducePow, Int.reduceAdd, Int.reduceSub, Int.reduceMul, Int.reduceLT, Int.reduceLE, Int.reduceEq, Int.reduceNe, Int.reducePow, Int.reduceToNat, Int.reduceNeg]
        omega
    · simp -dsimp -implicitDefEqProofs (disch := first | omega | (simp only [List.length_append, List.length_cons, List.length_nil, List.length_take, List.length_drop]; omega)) only [hs, el, ↓aPre, aPost, oneW, allOne, retV, retVA, ↓reduceIte, reduceCtorEq, Nat.reduceAdd, Nat.reduceSub, Nat.reduceMul, Nat.reduceLT, Nat.reduceLeDiff, Nat.reduceEqDiff, Nat.reduceDiv, Nat.reduceMod, Nat.reducePow, Int.reduceAdd, Int.reduceSub, Int.reduceMul, Int.reduceLT, Int.reduceLE, Int.reduceEq, Int.reduceNe, Int.reducePow, Int.reduceToNat, Int.reduceNeg]
      refine post_eq ?_
      rw [show tab (dst l p M k) n = diffL l p w from ?_]
      rw [diffL, ← hn, ← hM, Int.toNat_natCast]
      refine tab_congr n fun j hj => ?_
      unfold dst
      split
      · rfl
      · rw [difF, if_pos (by omega)]
  · rw [diffD, if_neg he]
    simp -dsimp -implicitDefEqProofs (disch := first | omega | (simp only [List.length_append, List.length_cons, List.length_nil, List.length_take, List.length_drop]; omega)) only [fitsD_err he, he, ↓aPre, aPost, oneW, allOne, retV, retVA, ↓reduceIte, reduceCtorEq, Nat.reduceAdd, Nat.reduceSub, Nat.reduceMul, Nat.reduceLT, Nat.reduceLeDiff, Nat.reduceEqDiff, Nat.reduceDiv, Nat.reduceMod, Nat.reducePow, Int.reduceAdd, Int.reduceSub, Int.reduceMul, Int.reduceLT, Int.reduceLE, Int.reduceEq, Int.reduceNe, Int.reducePow, Int.reduceToNat, Int.reduceNeg]
    exact post_nil (leD_refl _)
theorem undo_giv (l : List Int) (per w : Int) (hl : l.length ≤ 1000000) (hU : In 4294967296 l) (hp : -9223372036854775808 ≤ per ∧ per ≤ 9223372036854775807) : Giv Try.prog 10 [.lst 1 (li .u32 l), .c (.int .i64 per), .c (.int .i64 w)] (retV (undoD l per w)) := by
  refine Giv.of mixed c10 (Nat.le_of_ble_eq_true rfl) ?_
  simp -dsimp -implicitDefEqProofs (disch := first | omega | (simp only [List.length_append, List.length_cons, List.length_nil, List.length_take, List.length_drop]; omega)) only [a10, ↓aPre, aPost, oneW, allOne, retV, retVA, ↓reduceIte, reduceCtorEq, Nat.reduceAdd, Nat.reduceSub, Nat.reduceMul, Nat.reduceLT, Nat.reduceLeDiff, Nat.reduceEqDiff, Nat.reduceDiv, Nat.reduceMod, Nat.reducePow, Int.reduceAdd, Int.reduceSub, Int.reduceMul, Int.reduceLT, Int.reduceLE, Int.reduceEq, Int.reduceNe, Int.reducePow, Int.reduceToNat, Int.reduceNeg]
  refine call_giv (fits_giv l per w (by omega)) ?_
  by_cases he : errP l per w = 0
  · obtain ⟨⟨hA, hB, hC⟩, hj⟩ := errP_ok he
    rw [undoD, if_pos he]
    obtain ⟨p, rfl⟩ : ∃ p : Nat, per = p := ⟨per.toNat, by omega⟩
    obtain ⟨n, hn⟩ : ∃ n, n = l.length := ⟨_, rfl⟩
    obtain ⟨M, hM⟩ : ∃ M, M = mkI w + 1 := ⟨_, rfl⟩
    simp -dsimp -implicitDefEqProofs (disch := first | omega | (simp only [List.length_append, List.length_cons, List.length_nil, List.length_take, List.length_drop]; omega)) only [fitsD_ok he, ↓aPre, aPost, oneW, allOne, retV, retVA, ↓reduceIte, reduceCtorEq, Nat.reduceAdd, Nat.reduceSub, Nat.reduceMul, Nat.reduceLT, Nat.reduceLeDiff, Nat.reduceEqDiff, Nat.reduceDiv, Nat.reduceMod, Nat.reducePow, Int.reduceAdd, Int.reduceSub, Int.reduceMul, Int.reduceLT, Int.reduceLE, Int.reduceEq, Int.reduceNe, Int.reducePow, Int.reduceToNat, Int.reduceNeg]
    refine loop_of (fun s => ∃ (k : Nat), p ≤ k ∧ (k ≤ n ∨ k = p) ∧ s.tm 11 = .d (.c (.int .i64 k)) ∧ s.tm 1 = .d (.c (.int .i64 p)) ∧ s.tm 8 = .d (.c (.int .u32 (mkI w))) ∧ s.tm 10 = .sl 22 1 0 n ∧ s.hp 22 = some (.row 1 (li .u32 (tab (ust l p M k) n)))) (fun s => (n - (avN (s.tm 11)).toNat)) ?_ ?_
    · refine ⟨p, Nat.le_refl _, .inr rfl, ?_⟩
      have e0 : tab (ust l p M p) n = l := (list_tab hn.symm fun i hi => by
        unfold ust
        split
        · rename_i h; rw [unF_lt h]
        · rfl).symm
      rw [hn] at e0
      simp -dsimp -implicitDefEqProofs (disch := first | omega | (simp only [List.length_append, List.length_cons, List.length_nil, List.length_take, List.length_drop]; omega)) only [e0, hn, ↓aPre, aPost, oneW, allOne, retV, retVA, ↓reduceIte, reduceCtorEq, Nat.reduceAdd, Nat.reduceSub, Nat.reduceMul, Nat.reduceLT, Nat.reduceLeDiff, Nat.reduceEqDiff, Nat.reduceDiv, Nat.reduceMod, Nat.reducePow, Int.reduceAdd, Int.reduceSub, Int.reduceMul, Int.reduceLT, Int.reduceLE, Int.reduceEq, Int.reduceNe, Int.reducePow, Int.reduceToNat, Int.reduceNeg]
    rintro s ⟨k, hpk, hk, hs⟩
    have el := tab_len (ust l p M k) n
    by_cases hlt : k < n
    · have e2 : ((k : Int) - (p : Int)).toNat = k - p := by omega
      have g1 : (tab (ust l p M k) n).getD k 0 = l.getD k 0 := by rw [tab_get _ (by omega), ust, if_neg (by omega)]
      have g2 : (tab (ust l p M k) n).getD (k - p) 0 = unF l p M (k - p) := by rw [tab_get _ (by omega), ust, if_pos (by omega)]
      have ev : (l.getD k 0 + unF l p M (k - p)) % (mkI w + 1) = unF l p M k := by rw [unF_ge (by omega) hpk, hM]
      have es : (tab (ust l p M k) n).set k (unF l p M k) = tab (ust l p M (k + 1)) n := by
        rw [tab_set _ (by omega)]
        refine tab_congr n fun j hj => ?_
        unfold ust
        by_cases c : j = k
        · subst c; rw [if_pos rfl, if_pos (by omega)]
        · rw [if_neg c]
          by_cases c2 : j < k
          · rw [if_pos c2, if_pos (by omega)]
          · rw [if_neg c2, if_neg (by omega)]
      simp -dsimp -implicitDefEqProofs (disch := first | omega | (simp only [List.length_append, List.length_cons, List.length_nil, List.length_take, List.length_drop]; omega)) only [hs, e2, g1, g2, and_mod hA, ev, el, ↓aPre, aPost, oneW, allOne, retV, retVA, ↓reduceIte, reduceCtorEq, Nat.reduceAdd, Nat.reduceSub, Nat.reduceMul, Nat.reduceLT, Nat.reduceLeDiff, Nat.reduceEqDiff, Nat.reduceDiv, Nat.reduceMod, Nat.reducePow, Int.reduceAdd, Int.reduceSub, Int.reduceMul, Int.reduceLT, Int.reduceLE, Int.reduceEq, Int.reduceNe, Int.reducePow, Int.reduceToNat, Int.reduceNeg]
      refine round_of ⟨k + 1, by omega, by omega, ?_⟩ ?_
      · simp -dsimp -implicitDefEqProofs (disch := first | omega | (simp only [List.length_append, List.length_cons, List.length_nil, List.length_take, List.length_drop]; omega)) only [hs, e2, g1, g2, and_mod hA, ev, el, es, ↓aPre, aPost, oneW, allOne, retV, retVA, ↓reduceIte, reduceCtorEq, Nat.reduceAdd, Nat.reduceSub, Nat.reduceMul, Nat.reduceLT, Nat.reduceLeDiff, Nat.reduceEqDiff, Nat.reduceDiv, Nat.reduceMod, Nat.reducePow, Int.reduceAdd, Int.reduceSub, Int.reduceMul, Int.reduceLT, Int.reduceLE, Int.reduceEq, Int.reduceNe, Int.reducePow, Int.reduceToNat, Int.reduceNeg]
      · simp -dsimp -implicitDefEqProofs (disch := first | omega | (simp only [List.length_append, List.length_cons, List.length_nil, List.length_take, List.length_drop]; omega)) only [hs, ↓aPre, aPost, oneW, allOne, retV, retVA, ↓reduceIte, reduceCtorEq, Nat.reduceAdd, Nat.reduceSub, Nat.reduceMul, Nat.reduceLT, Nat.reduceLeDiff, Nat.reduceEqDiff, Nat.reduceDiv, Nat.reduceMod, Nat.reducePow, Int.reduceAdd, Int.reduceSub, Int.reduceMul, Int.reduceLT, Int.reduceLE, Int.reduceEq, Int.reduceNe, Int.reducePow, Int.reduceToNat, Int.reduceNeg]
        omega
    · simp -dsimp -implicitDefEqProofs (disch := first | omega | (simp only [List.length_append, List.length_cons, List.length_nil, List.length_take, List.length_drop]; omega)) only [hs, el, ↓aPre, aPost, oneW, allOne, retV, retVA, ↓reduceIte, reduceCtorEq, Nat.reduceAdd, Nat.reduceSub, Nat.reduceMul, Nat.reduceLT, Nat.reduceLeDiff, Nat.reduceEqDiff, Nat.reduceDiv, Nat.reduceMod, Nat.reducePow, Int.reduceAdd, Int.reduceSub, Int.reduceMul, Int.reduceLT, Int.reduceLE, Int.reduceEq, Int.reduceNe, Int.reducePow, Int.reduceToNat, Int.reduceNeg]
      refine post_eq ?_
      rw [show tab (ust l p M k) n = undoL l p w from ?_]
      rw [undoL, ← hn, ← hM, Int.toNat_natCast]
      refine tab_congr n fun j hj => ?_
      rw [ust, if_pos (by omega)]
  · rw [undoD, if_neg he]
    simp -dsimp -implicitDefEqProofs (disch := first | omega | (simp only [List.length_append, List.length_cons, List.length_nil, List.length_take, List.length_drop]; omega)) only [fitsD_err he, he, ↓aPre, aPost, oneW, allOne, retV, retVA, ↓reduceIte, reduceCtorEq, Nat.reduceAdd, Nat.reduceSub, Nat.reduceMul, Nat.reduceLT, Nat.reduceLeDiff, Nat.reduceEqDiff, Nat.reduceDiv, Nat.reduceMod, Nat.reducePow, Int.reduceAdd, Int.reduceSub, Int.reduceMul, Int.reduceLT, Int.reduceLE, Int.reduceEq, Int.reduceNe, Int.reducePow, Int.reduceToNat, Int.reduceNeg]
    exact post_nil (leD_refl _)
theorem ev_diff {w : Int} (h : wid w) (a b : Int) : (a - b + (mkI w + 1)) % (mkI w + 1) = (a - b) % (mkI w + 1) := by
  rcases h with rfl | rfl | rfl
  · rw [show mkI 8 = 255 from rfl]; omega
  · rw [show mkI 16 = 65535 from rfl]; omega
  · rw [show mkI 32 = 4294967295 from rfl]; omega
theorem rdiff_giv (l : List Int) (per w : Int) (hl : l.length ≤ 1000000) (hU : In 4294967296 l) (hp : -9223372036854775808 ≤ per ∧ per ≤ 9223372036854775807) : Giv Try.prog 9 [.lst 1 (li .u32 l), .c (.int .i64 per), .c (.int .i64 w)] (retV (diffD l per w)) := by
  refine Giv.of mixed c9 (Nat.le_of_ble_eq_true rfl) ?_
  simp -dsimp -implicitDefEqProofs (disch := first | omega | (simp only [List.length_append, List.length_cons, List.length_nil, List.length_take, List.length_drop]; omega)) only [a9, ↓aPre, aPost, oneW, allOne, retV, retVA, ↓reduceIte, reduceCtorEq, Nat.reduceAdd, Nat.reduceSub, Nat.reduceMul, Nat.reduceLT, Nat.reduceLeDiff, Nat.reduceEqDiff, Nat.reduceDiv, Nat.reduceMod, Nat.reducePow, Int.reduceAdd, Int.reduceSub, Int.reduceMul, Int.reduceLT, Int.reduceLE, Int.reduceEq, Int.reduceNe, Int.reducePow, Int.reduceToNat, Int.reduceNeg]
  refine call_giv (rfits_giv l per w (by omega) hU) ?_
  by_cases he : errP l per w = 0
  · obtain ⟨⟨hA, hB, hC⟩, hj⟩ := errP_ok he
    have hmk := mkI_pos hA
    have hin : ∀ j, j < l.length → 0 ≤ l.getD j 0 ∧ l.getD j 0 < mkI w + 1 := fun j h => by have := hj j h; have := hU.get (by decide) j; omega
    rw [diffD, if_pos he]
    obtain ⟨p, rfl⟩ : ∃ p : Nat, per = p := ⟨per.toNat, by omega⟩
    simp -dsimp -implicitDefEqProofs (disch := first | omega | (simp only [List.length_append, List.length_cons, List.length_nil, List.length_take, List.length_drop]; omega)) only [he, ↓aPre, aPost, oneW, allOne, retV, retVA, ↓reduceIte, reduceCtorEq, Nat.reduceAdd, Nat.reduceSub, Nat.reduceMul, Nat.reduceLT, Nat.reduceLeDiff, Nat.reduceEqDiff, Nat.reduceDiv, Nat.reduceMod, Nat.reducePow, Int.reduceAdd, Int.reduceSub, Int.reduceMul, Int.reduceLT, Int.reduceLE, Int.reduceEq, Int.reduceNe, Int.reducePow, Int.reduceToNat, Int.reduceNeg]
    refine loop_nil 9 100 1 (fun s => ∃ (k : Nat), k ≤ l.length ∧ s.tm 10 = .d (.c (.int .i64 k)) ∧ s.tm 1 = .d (.c (.int .i64 p)) ∧ s.tm 2 = .d (.c (.int .i64 w)) ∧ s.tm 0 = .d (.lst 1 (li .u32 l)) ∧ s.tm 9 = .sl 100 1 0 k ∧ s.hp 100 = some (.row 1 (li .u32 (tab (difF l p (mkI w + 1)) k)))) (fun s => (l.length - (avN (s.tm 10)).toNat)) ?_ (by decide) ?_ ?_
    · simp -dsimp -implicitDefEqProofs (disch := first | omega | (simp only [List.length_append, List.length_cons, List.length_nil, List.length_take, List.length_drop]; omega)) only [↓aPre, aPost, oneW, allOne, retV, retVA, ↓reduceIte, reduceCtorEq, Nat.reduceAdd, Nat.reduceSub, Nat.reduceMul, Nat.reduceLT, Nat.reduceLeDiff, Nat.reduceEqDiff, Nat.reduceDiv, Nat.reduceMod, Nat.reducePow, Int.reduceAdd, Int.reduceSub, Int.reduceMul, Int.reduceLT, Int.reduceLE, Int.reduceEq, Int.reduceNe, Int.reducePow, Int.reduceToNat, Int.reduceNeg]
    · refine ⟨0, Nat.zero_le _, ?_⟩
      simp -dsimp -implicitDefEqProofs (disch := first | omega | (simp only [List.length_append, List.length_cons, List.length_nil, List.length_take, List.length_drop]; omega)) only [tab, Int.natCast_zero, ↓aPre, aPost, oneW, allOne, retV, retVA, ↓reduceIte, reduceCtorEq, Nat.reduceAdd, Nat.reduceSub, Nat.reduceMul, Nat.reduceLT, Nat.reduceLeDiff, Nat.reduceEqDiff, Nat.reduceDiv, Nat.reduceMod, Nat.reducePow, Int.reduceAdd, Int.reduceSub, Int.reduceMul, Int.reduceLT, Int.reduceLE, Int.reduceEq, Int.reduceNe, Int.reducePow, Int.reduceToNat, Int.reduceNeg]
    rintro s ⟨k, hk, hs⟩
    have el := tab_len (difF l p (mkI w + 1)) k
    by_cases hlt : k < l.length
    · have hz := hin k hlt
      have hd := difF_in (p := p) (by omega) hin k hlt
      by_cases hkp : p ≤ k
      · have hz2 := hin (k - p) (by omega)
        have e2 : ((k : Int) - (p : Int)).toNat = k - p := by omega
        have ev : (l.getD k 0 - l.getD (k - p) 0 + (mkI w + 1)) % (mkI w + 1) = difF l p (mkI w + 1) k := by rw [difF, if_neg (by omega), ev_diff hA]
        simp -dsimp -implicitDefEqProofs (disch := first | omega | (simp only [List.length_append, List.length_cons, List.length_nil, List.length_take, List.length_drop]; omega)) only [hs, e2, ↓aPre, aPost, oneW, allOne, retV, retVA, ↓reduceIte, reduceCtorEq, Nat.reduceAdd, Nat.reduceSub, Nat.reduceMul, Nat.reduceLT, Nat.reduceLeDiff, Nat.reduceEqDiff, Nat.reduceDiv, Nat.reduceMod, Nat.reducePow, Int.reduceAdd, Int.reduceSub, Int.reduceMul, Int.reduceLT, Int.reduceLE, Int.reduceEq, Int.reduceNe, Int.reducePow, Int.reduceToNat, Int.reduceNeg]
        refine call_giv (round_giv hA) ?_
        simp -dsimp -implicitDefEqProofs (disch := first | omega | (simp only [List.length_append, List.length_cons, List.length_nil, List.length_take, List.length_drop]; omega)) only [hs, e2, ↓aPre, aPost, oneW, allOne, retV, retVA, ↓reduceIte, reduceCtorEq, Nat.reduceAdd, Nat.reduceSub, Nat.reduceMul, Nat.reduceLT, Nat.reduceLeDiff, Nat.reduceEqDiff, Nat.reduceDiv, Nat.reduceMod, Nat.reducePow, Int.reduceAdd, Int.reduceSub, Int.reduceMul, Int.reduceLT, Int.reduceLE, Int.reduceEq, Int.reduceNe, Int.reducePow, Int.reduceToNat, Int.reduceNeg]
        refine call_giv (round_giv hA) ?_
        simp -dsimp -implicitDefEqProofs (disch := first | omega | (simp only [List.length_append, List.length_cons, List.length_nil, List.length_take, List.length_drop]; omega)) only [hs, e2, ev, el, ↓aPre, aPost, oneW, allOne, retV, retVA, ↓reduceIte, reduceCtorEq, Nat.reduceAdd, Nat.reduceSub, Nat.reduceMul, Nat.reduceLT, Nat.reduceLeDiff, Nat.reduceEqDiff, Nat.reduceDiv, Nat.reduceMod, Nat.reducePow, Int.reduceAdd, Int.reduceSub, Int.reduceMul, Int.reduceLT, Int.reduceLE, Int.reduceEq, Int.reduceNe, Int.reducePow, Int.reduceToNat, Int.reduceNeg]
        refine round_of ⟨k + 1, by omega, ?_⟩ ?_
        · simp -dsimp -implicitDefEqProofs (disch := first | omega | (simp only [List.length_append, List.length_cons, List.length_nil, List.length_take, List.length_drop]; omega)) only [hs, e2, ev, el, tab, ↓aPre, aPost, oneW, allOne, retV, retVA, ↓reduceIte, reduceCtorEq, Nat.reduceAdd, Nat.reduceSub, Nat.reduceMul, Nat.reduceLT, Nat.reduceLeDiff, Nat.reduceEqDiff, Nat.reduceDiv, Nat.reduceMod, Nat.reducePow, Int.reduceAdd, Int.reduceSub, Int.reduceMul, Int.reduceLT, Int.reduceLE, Int.reduceEq, Int.reduceNe, Int.reducePow, Int.reduceToNat, Int.reduceNeg]
        · simp -dsimp -implicitDefEqProofs (disch := first | omega | (simp only [List.length_append, List.length_cons, List.length_nil, List.length_take, List.length_drop]; omega)) only [hs, ↓aPre, aPost, oneW, allOne, retV, retVA, ↓reduceIte, reduceCtorEq, Nat.reduceAdd, Nat.reduceSub, Nat.reduceMul, Nat.reduceLT, Nat.reduceLeDiff, Nat.reduceEqDiff, Nat.reduceDiv, Nat.reduceMod, Nat.reducePow, Int.reduceAdd, Int.reduceSub, Int.reduceMul, Int.reduceLT, Int.reduceLE, Int.reduceEq, Int.reduceNe, Int.reducePow, Int.reduceToNat, Int.reduceNeg]
          omega
      · have ev : l.getD k 0 = difF l p (mkI w + 1) k := by rw [difF, if_pos (by omega)]
        simp -dsimp -implicitDefEqProofs (disch := first | omega | (simp only [List.length_append, List.length_cons, List.length_nil, List.length_take, List.length_drop]; omega)) only [hs, el, ↓aPre, aPost, oneW, allOne, retV, retVA, ↓reduceIte, reduceCtorEq, Nat.reduceAdd, Nat.reduceSub, Nat.reduceMul, Nat.reduceLT, Nat.reduceLeDiff, Nat.reduceEqDiff, Nat.reduceDiv, Nat.reduceMod, Nat.reducePow, Int.reduceAdd, Int.reduceSub, Int.reduceMul, Int.reduceLT, Int.reduceLE, Int.reduceEq, Int.reduceNe, Int.reducePow, Int.reduceToNat, Int.reduceNeg]
        refine round_of ⟨k + 1, by omega, ?_⟩ ?_
        · simp -dsimp -implicitDefEqProofs (disch := first | omega | (simp only [List.length_append, List.length_cons, List.length_nil, List.length_take, List.length_drop]; omega)) only [hs, el, tab, ← ev, ↓aPre, aPost, oneW, allOne, retV, retVA, ↓reduceIte, reduceCtorEq, Nat.reduceAdd, Nat.reduceSub, Nat.reduceMul, Nat.reduceLT, Nat.reduceLeDiff, Nat.reduceEqDiff, Nat.reduceDiv, Nat.reduceMod, Nat.reducePow, Int.reduceAdd, Int.reduceSub, Int.reduceMul, Int.reduceLT, Int.reduceLE, Int.reduceEq, Int.reduceNe, Int.reducePow, Int.reduceToNat, Int.reduceNeg]
        · simp -dsimp -implicitDefEqProofs (disch := first | omega | (simp only [List.length_append, List.length_cons, List.length_nil, List.length_take, List.length_drop]; omega)) only [hs, ↓aPre, aPost, oneW, allOne, retV, retVA, ↓reduceIte, reduceCtorEq, Nat.reduceAdd, Nat.reduceSub, Nat.reduceMul, Nat.reduceLT, Nat.reduceLeDiff, Nat.reduceEqDiff, Nat.reduceDiv, Nat.reduceMod, Nat.reducePow, Int.reduceAdd, Int.reduceSub, Int.reduceMul, Int.reduceLT, Int.reduceLE, Int.reduceEq, Int.reduceNe, Int.reducePow, Int.reduceToNat, Int.reduceNeg]
          omega
    · simp -dsimp -implicitDefEqProofs (disch := first | omega | (simp only [List.length_append, List.length_cons, List.length_nil, List.length_take, List.length_drop]; omega)) only [hs, el, ↓aPre, aPost, oneW, allOne, retV, retVA, ↓reduceIte, reduceCtorEq, Nat.reduceAdd, Nat.reduceSub, Nat.reduceMul, Nat.reduceLT, Nat.reduceLeDiff, Nat.reduceEqDiff, Nat.reduceDiv, Nat.reduceMod, Nat.reducePow, Int.reduceAdd, Int.reduceSub, Int.reduceMul, Int.reduceLT, Int.reduceLE, Int.reduceEq, Int.reduceNe, Int.reducePow, Int.reduceToNat, Int.reduceNeg]
      obtain rfl : k = l.length := by omega
      exact post_eq rfl
  · rw [diffD, if_neg he]
    simp -dsimp -implicitDefEqProofs (disch := first | omega | (simp only [List.length_append, List.length_cons, List.length_nil, List.length_take, List.length_drop]; omega)) only [he, ↓aPre, aPost, oneW, allOne, retV, retVA, ↓reduceIte, reduceCtorEq, Nat.reduceAdd, Nat.reduceSub, Nat.reduceMul, Nat.reduceLT, Nat.reduceLeDiff, Nat.reduceEqDiff, Nat.reduceDiv, Nat.reduceMod, Nat.reducePow, Int.reduceAdd, Int.reduceSub, Int.reduceMul, Int.reduceLT, Int.reduceLE, Int.reduceEq, Int.reduceNe, Int.reducePow, Int.reduceToNat, Int.reduceNeg]
    exact post_nil (leD_refl _)
theorem mod_go (a x u M : Int) : ((a + x) % M + u) % M = (a + (x + u) % M) % M := by simp [Int.add_assoc]
theorem rundo_giv (l : List Int) (per w : Int) (hl : l.length ≤ 1000000) (hU : In 4294967296 l) (hp : -9223372036854775808 ≤ per ∧ per ≤ 9223372036854775807) : Giv Try.prog 11 [.lst 1 (li .u32 l), .c (.int .i64 per), .c (.int .i64 w)] (retV (undoD l per w)) := by
  refine Giv.of mixed c11 (Nat.le_of_ble_eq_true rfl) ?_
  simp -dsimp -implicitDefEqProofs (disch := first | omega | (simp only [List.length_append, List.length_cons, List.length_nil, List.length_take, List.length_drop]; omega)) only [a11, ↓aPre, aPost, oneW, allOne, retV, retVA, ↓reduceIte, reduceCtorEq, Nat.reduceAdd, Nat.reduceSub, Nat.reduceMul, Nat.reduceLT, Nat.reduceLeDiff, Nat.reduceEqDiff, Nat.reduceDiv, Nat.reduceMod, Nat.reducePow, Int.reduceAdd, Int.reduceSub, Int.reduceMul, Int.reduceLT, Int.reduceLE, Int.reduceEq, Int.reduceNe, Int.reducePow, Int.reduceToNat, Int.reduceNeg]
  refine call_giv (rfits_giv l per w (by omega) hU) ?_
  by_cases he : errP l per w = 0
  · obtain ⟨⟨hA, hB, hC⟩, hj⟩ := errP_ok he
    have hmk := mkI_pos hA
    have hin : ∀ j, j < l.length → 0 ≤ l.getD j 0 ∧ l.getD j 0 < mkI w + 1 := fun j h => by have := hj j h; have := hU.get (by decide) j; omega
    rw [undoD, if_pos he]
    obtain ⟨p, rfl⟩ : ∃ p : Nat, per = p := ⟨per.toNat, by omega⟩
    obtain ⟨M, hM⟩ : ∃ M, M = mkI w + 1 := ⟨_, rfl⟩
    rw [← hM] at hin
    simp -dsimp -implicitDefEqProofs (disch := first | omega | (simp only [List.length_append, List.length_cons, List.length_nil, List.length_take, List.length_drop]; omega)) only [he, ↓aPre, aPost, oneW, allOne, retV, retVA, ↓reduceIte, reduceCtorEq, Nat.reduceAdd, Nat.reduceSub, Nat.reduceMul, Nat.reduceLT, Nat.reduceLeDiff, Nat.reduceEqDiff, Nat.reduceDiv, Nat.reduceMod, Nat.reducePow, Int.reduceAdd, Int.reduceSub, Int.reduceMul, Int.reduceLT, Int.reduceLE, Int.reduceEq, Int.reduceNe, Int.reducePow, Int.reduceToNat, Int.reduceNeg]
    refine loop_nil 9 100 1 (fun s => ∃ (k : Nat), k ≤ l.length ∧ s.tm 10 = .d (.c (.int .i64 k)) ∧ s.tm 1 = .d (.c (.int .i64 p)) ∧ s.tm 2 = .d (.c (.int .i64 w)) ∧ s.tm 0 = .d (.lst 1 (li .u32 l)) ∧ s.tm 9 = .sl 100 1 0 k ∧ s.hp 100 = some (.row 1 (li .u32 (tab (unF l p M) k)))) (fun s => (l.length - (avN (s.tm 10)).toNat)) ?_ (by decide) ?_ ?_
    · simp -dsimp -implicitDefEqProofs (disch := first | omega | (simp only [List.length_append, List.length_cons, List.length_nil, List.length_take, List.length_drop]; omega)) only [↓aPre, aPost, oneW, allOne, retV, retVA, ↓reduceIte, reduceCtorEq, Nat.reduceAdd, Nat.reduceSub, Nat.reduceMul, Nat.reduceLT, Nat.reduceLeDiff, Nat.reduceEqDiff, Nat.reduceDiv, Nat.reduceMod, Nat.reducePow, Int.reduceAdd, Int.reduceSub, Int.reduceMul, Int.reduceLT, Int.reduceLE, Int.reduceEq, Int.reduceNe, Int.reducePow, Int.reduceToNat, Int.reduceNeg]
    · refine ⟨0, Nat.zero_le _, ?_⟩
      simp -dsimp -implicitDefEqProofs (disch := first | omega | (simp only [List.length_append, List.length_cons, List.length_nil, List.length_take, List.length_drop]; omega)) only [tab, Int.natCast_zero, ↓aPre, aPost, oneW, allOne, retV, retVA, ↓reduceIte, reduceCtorEq, Nat.reduceAdd, Nat.reduceSub, Nat.reduceMul, Nat.reduceLT, Nat.reduceLeDiff, Nat.reduceEqDiff, Nat.reduceDiv, Nat.reduceMod, Nat.reducePow, Int.reduceAdd, Int.reduceSub, Int.reduceMul, Int.reduceLT, Int.reduceLE, Int.reduceEq, Int.reduceNe, Int.reducePow, Int.reduceToNat, Int.reduceNeg]
    rintro s ⟨k, hk, hs⟩
    have el := tab_len (unF l p M) k
    by_cases hlt : k < l.length
    · have hu := unF_in (p := p) (by omega) hin k hlt
      simp -dsimp -implicitDefEqProofs (disch := first | omega | (simp only [List.length_append, List.length_cons, List.length_nil, List.length_take, List.length_drop]; omega)) only [hs, ↓aPre, aPost, oneW, allOne, retV, retVA, ↓reduceIte, reduceCtorEq, Nat.reduceAdd, Nat.reduceSub, Nat.reduceMul, Nat.reduceLT, Nat.reduceLeDiff, Nat.reduceEqDiff, Nat.reduceDiv, Nat.reduceMod, Nat.reducePow, Int.reduceAdd, Int.reduceSub, Int.reduceMul, Int.reduceLT, Int.reduceLE, Int.reduceEq, Int.reduceNe, Int.reducePow, Int.reduceToNat, Int.reduceNeg]
      refine loop_of (fun s => ∃ (j a : Int), j ≤ k ∧ (0 ≤ j → 0 ≤ a ∧ a < M ∧ (a + unF l p M j.toNat) % M = unF l p M k) ∧ (j < 0 → -(p : Int) ≤ j ∧ a = unF l p M k) ∧ s.tm 12 = .d (.c (.int .i64 j)) ∧ s.tm 11 = .d (.c (.int .i64 a)) ∧ s.tm 10 = .d (.c (.int .i64 k)) ∧ s.tm 1 = .d (.c (.int .i64 p)) ∧ s.tm 2 = .d (.c (.int .i64 w)) ∧ s.tm 0 = .d (.lst 1 (li .u32 l)) ∧ s.tm 9 = .sl 100 1 0 k ∧ s.hp 100 = some (.row 1 (li .u32 (tab (unF l p M) k)))) (fun s => (avN (s.tm 12) + p).toNat) ?_ ?_
      · refine ⟨k, 0, Int.le_refl _, fun _ => ⟨Int.le_refl _, by omega, ?_⟩, fun h => by omega, ?_⟩
        · rw [Int.zero_add, Int.toNat_natCast, Int.emod_eq_of_lt hu.1 hu.2]
        · simp -dsimp -implicitDefEqProofs (disch := first | omega | (simp only [List.length_append, List.length_cons, List.length_nil, List.length_take, List.length_drop]; omega)) only [hs, ↓aPre, aPost, oneW, allOne, retV, retVA, ↓reduceIte, reduceCtorEq, Nat.reduceAdd, Nat.reduceSub, Nat.reduceMul, Nat.reduceLT, Nat.reduceLeDiff, Nat.reduceEqDiff, Nat.reduceDiv, Nat.reduceMod, Nat.reducePow, Int.reduceAdd, Int.reduceSub, Int.reduceMul, Int.reduceLT, Int.reduceLE, Int.reduceEq, Int.reduceNe, Int.reducePow, Int.reduceToNat, Int.reduceNeg]
      rintro s2 ⟨j, a, hjk, h0, h1, hs2⟩
      by_cases hj0 : 0 ≤ j
      · obtain ⟨m, rfl⟩ : ∃ m : Nat, j = m := ⟨j.toNat, by omega⟩
        obtain ⟨ha0, ha1, ha2⟩ := h0 hj0
        rw [Int.toNat_natCast] at ha2
        have hz := hin m (by omega)
        have hb : 0 ≤ (a + l.getD m 0) % M ∧ (a + l.getD m 0) % M < M := ⟨Int.emod_nonneg _ (by omega), Int.emod_lt_of_pos _ (by omega)⟩
        simp -dsimp -implicitDefEqProofs (disch := first | omega | (simp only [List.length_append, List.length_cons, List.length_nil, List.length_take, List.length_drop]; omega)) only [hs2, ↓aPre, aPost, oneW, allOne, retV, retVA, ↓reduceIte, reduceCtorEq, Nat.reduceAdd, Nat.reduceSub, Nat.reduceMul, Nat.reduceLT, Nat.reduceLeDiff, Nat.reduceEqDiff, Nat.reduceDiv, Nat.reduceMod, Nat.reducePow, Int.reduceAdd, Int.reduceSub, Int.reduceMul, Int.reduceLT, Int.reduceLE, Int.reduceEq, Int.reduceNe, Int.reducePow, Int.reduceToNat, Int.reduceNeg]
        refine call_giv (round_giv hA) ?_
        rw [← hM]
        simp -dsimp -implicitDefEqProofs (disch := first | omega | (simp only [List.length_append, List.length_cons, List.length_nil, List.length_take, List.length_drop]; omega)) only [hs2, ↓aPre, aPost, oneW, allOne, retV, retVA, ↓reduceIte, reduceCtorEq, Nat.reduceAdd, Nat.reduceSub, Nat.reduceMul, Nat.reduceLT, Nat.reduceLeDiff, Nat.reduceEqDiff, Nat.reduceDiv, Nat.reduceMod, Nat.reducePow, Int.reduceAdd, Int.reduceSub, Int.reduceMul, Int.reduceLT, Int.reduceLE, Int.reduceEq, Int.reduceNe, Int.reducePow, Int.reduceToNat, Int.reduceNeg]
        refine round_of ⟨(m : Int) - p, (a + l.getD m 0) % M, by omega, fun h => ⟨hb.1, hb.2, ?_⟩, fun h => ⟨by omega, ?_⟩, ?_⟩ ?_
        · have e3 : ((m : Int) - (p : Int)).toNat = m - p := by omega
          rw [← ha2, e3, unF_ge (by omega) (show p ≤ m by omega), mod_go]
        · rw [← ha2, unF_lt (by omega)]
        · simp -dsimp -implicitDefEqProofs (disch := first | omega | (simp only [List.length_append, List.length_cons, List.length_nil, List.length_take, List.length_drop]; omega)) only [hs2, ↓aPre, aPost, oneW, allOne, retV, retVA, ↓reduceIte, reduceCtorEq, Nat.reduceAdd, Nat.reduceSub, Nat.reduceMul, Nat.reduceLT, Nat.reduceLeDiff, Nat.reduceEqDiff, Nat.reduceDiv, Nat.reduceMod, Nat.reducePow, Int.reduceAdd, Int.reduceSub, Int.reduceMul, Int.reduceLT, Int.reduceLE, Int.reduceEq, Int.reduceNe, Int.reducePow, Int.reduceToNat, Int.reduceNeg]
        · simp -dsimp -implicitDefEqProofs (disch := first | omega | (simp only [List.length_append, List.length_cons, List.length_nil, List.length_take, List.length_drop]; omega)) only [hs2, ↓aPre, aPost, oneW, allOne, retV, retVA, ↓reduceIte, reduceCtorEq, Nat.reduceAdd, Nat.reduceSub, Nat.reduceMul, Nat.reduceLT, Nat.reduceLeDiff, Nat.reduceEqDiff, Nat.reduceDiv, Nat.reduceMod, Nat.reducePow, Int.reduceAdd, Int.reduceSub, Int.reduceMul, Int.reduceLT, Int.reduceLE, Int.reduceEq, Int.reduceNe, Int.reducePow, Int.reduceToNat, Int.reduceNeg]
          omega
      · obtain ⟨ha0, rfl⟩ := h1 (by omega)
        simp -dsimp -implicitDefEqProofs (disch := first | omega | (simp only [List.length_append, List.length_cons, List.length_nil, List.length_take, List.length_drop]; omega)) only [hs2, el, ↓aPre, aPost, oneW, allOne, retV, retVA, ↓reduceIte, reduceCtorEq, Nat.reduceAdd, Nat.reduceSub, Nat.reduceMul, Nat.reduceLT, Nat.reduceLeDiff, Nat.reduceEqDiff, Nat.reduceDiv, Nat.reduceMod, Nat.reducePow, Int.reduceAdd, Int.reduceSub, Int.reduceMul, Int.reduceLT, Int.reduceLE, Int.reduceEq, Int.reduceNe, Int.reducePow, Int.reduceToNat, Int.reduceNeg]
        refine round_of ⟨k + 1, by omega, ?_⟩ ?_
        · simp -dsimp -implicitDefEqProofs (disch := first | omega | (simp only [List.length_append, List.length_cons, List.length_nil, List.length_take, List.length_drop]; omega)) only [hs2, el, tab, ↓aPre, aPost, oneW, allOne, retV, retVA, ↓reduceIte, reduceCtorEq, Nat.reduceAdd, Nat.reduceSub, Nat.reduceMul, Nat.reduceLT, Nat.reduceLeDiff, Nat.reduceEqDiff, Nat.reduceDiv, Nat.reduceMod, Nat.reducePow, Int.reduceAdd, Int.reduceSub, Int.reduceMul, Int.reduceLT, Int.reduceLE, Int.reduceEq, Int.reduceNe, Int.reducePow, Int.reduceToNat, Int.reduceNeg]
        · simp -dsimp -implicitDefEqProofs (disch := first | omega | (simp only [List.length_append, List.length_cons, List.length_nil, List.length_take, List.length_drop]; omega)) only [hs2, hs, ↓aPre, aPost, oneW, allOne, retV, retVA, ↓reduceIte, reduceCtorEq, Nat.reduceAdd, Nat.reduceSub, Nat.reduceMul, Nat.reduceLT, Nat.reduceLeDiff, Nat.reduceEqDiff, Nat.reduceDiv, Nat.reduceMod, Nat.reducePow, Int.reduceAdd, Int.reduceSub, Int.reduceMul, Int.reduceLT, Int.reduceLE, Int.reduceEq, Int.reduceNe, Int.reducePow, Int.reduceToNat, Int.reduceNeg]
          omega
    · simp -dsimp -implicitDefEqProofs (disch := first | omega | (simp only [List.length_append, List.length_cons, List.length_nil, List.length_take, List.length_drop]; omega)) only [hs, el, ↓aPre, aPost, oneW, allOne, retV, retVA, ↓reduceIte, reduceCtorEq, Nat.reduceAdd, Nat.reduceSub, Nat.reduceMul, Nat.reduceLT, Nat.reduceLeDiff, Nat.reduceEqDiff, Nat.reduceDiv, Nat.reduceMod, Nat.reducePow, Int.reduceAdd, Int.reduceSub, Int.reduceMul, Int.reduceLT, Int.reduceLE, Int.reduceEq, Int.reduceNe, Int.reducePow, Int.reduceToNat, Int.reduceNeg]
      obtain rfl : k = l.length := by omega
      refine post_eq ?_
      rw [undoL, ← hM]; rfl
  · rw [undoD, if_neg he]
    simp -dsimp -implicitDefEqProofs (disch := first | omega | (simp only [List.length_append, List.length_cons, List.length_nil, List.length_take, List.length_drop]; omega)) only [he, ↓aPre, aPost, oneW, allOne, retV, retVA, ↓reduceIte, reduceCtorEq, Nat.reduceAdd, Nat.reduceSub, Nat.reduceMul, Nat.reduceLT, Nat.reduceLeDiff, Nat.reduceEqDiff, Nat.reduceDiv, Nat.reduceMod, Nat.reducePow, Int.reduceAdd, Int.reduceSub, Int.reduceMul, Int.reduceLT, Int.reduceLE, Int.reduceEq, Int.reduceNe, Int.reducePow, Int.reduceToNat, Int.reduceNeg]
    exact post_nil (leD_refl _)
end Go.Proofs.Ytoeajefjpaiodaa
