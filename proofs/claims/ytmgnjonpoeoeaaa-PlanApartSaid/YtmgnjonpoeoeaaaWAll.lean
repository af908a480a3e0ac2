/- The reference's places; the chapter's example; pages laid one behind the other. No condition but what each says. -/
import Derived.Test.YtmgnjonpoeoeaaaWPlan
set_option linter.unusedSimpArgs false
set_option linter.unusedVariables false
set_option maxRecDepth 8000
set_option maxHeartbeats 4000000
namespace Go.Proofs.Ytmgnjonpoeoeaaa
open Go.Eng Go.RowKit
theorem all_giv (lg : Bool) (A : List Int) (hl : A.length ≤ 100000) (hA : In 18446744073709551616 A) (n : Nat) (hn : n ≤ A.length) (hok : gd lg A (hd lg) n) (hend : n = A.length ∨ ¬ nxok lg (ep A (hd lg) n) (A.getD n 0)) :
    Giv Try.prog 7 [.lst 1 (li .u64 A), .c (.bool lg)] (retV (if n = A.length then [.lst 1 (li .u64 (tab (ep A (hd lg)) n)), .c (.int .u64 (ep A (hd lg) n)), .c (.int .i64 0)] else [.lst 1 [], .c (.int .u64 0), .c (.int .i64 11)])) := by
  have hu := hd_u lg
  have hep : ∀ k, U (ep A (hd lg) k) := ep_u hu hA
  refine Giv.of mixed c7 (Nat.le_of_ble_eq_true rfl) ?_
  cases lg with
  | false =>
    simp -dsimp -implicitDefEqProofs (disch := first | omega | (simp only [List.length_append, List.length_cons, List.length_nil, List.length_take, List.length_drop]; omega)) only [a7, ↓aPre, aPost, oneW, allOne, retV, retVA, ↓reduceIte, reduceCtorEq, Nat.reduceAdd, Nat.reduceSub, Nat.reduceMul, Nat.reduceLT, Nat.reduceLeDiff, Nat.reduceEqDiff, Nat.reduceDiv, Nat.reduceMod, Nat.reducePow, Int.reduceAdd, Int.reduceSub, Int.reduceMul, Int.reduceLT, Int.reduceLE, Int.reduceEq, Int.reduceNe, Int.reducePow, Int.reduceToNat, Int.reduceNeg]
    refine loop_nil 8 100 1 (fun s => ∃ (k : Nat), k ≤ n ∧ s.tm 9 = .d (.c (.int .i64 k)) ∧ s.tm 0 = .d (.lst 1 (li .u64 A)) ∧ s.tm 1 = .d (.c (.bool false)) ∧ s.tm 7 = .d (.c (.int .u64 (ep A (hd false) k))) ∧ s.tm 8 = .sl 100 1 0 k ∧ s.hp 100 = some (.row 1 (li .u64 (tab (ep A (hd false)) k)))) (fun s => A.length - (avN (s.tm 9)).toNat) ?_ (by decide) ?_ ?_
    · simp -dsimp -implicitDefEqProofs (disch := first | omega | (simp only [List.length_append, List.length_cons, List.length_nil, List.length_take, List.length_drop]; omega)) only [↓aPre, aPost, oneW, allOne, retV, retVA, ↓reduceIte, reduceCtorEq, Nat.reduceAdd, Nat.reduceSub, Nat.reduceMul, Nat.reduceLT, Nat.reduceLeDiff, Nat.reduceEqDiff, Nat.reduceDiv, Nat.reduceMod, Nat.reducePow, Int.reduceAdd, Int.reduceSub, Int.reduceMul, Int.reduceLT, Int.reduceLE, Int.reduceEq, Int.reduceNe, Int.reducePow, Int.reduceToNat, Int.reduceNeg]
    · refine ⟨0, Nat.zero_le _, ?_⟩
      simp -dsimp -implicitDefEqProofs (disch := first | omega | (simp only [List.length_append, List.length_cons, List.length_nil, List.length_take, List.length_drop]; omega)) only [tab, ep, hd, Int.natCast_zero, ↓aPre, aPost, oneW, allOne, retV, retVA, ↓reduceIte, reduceCtorEq, Nat.reduceAdd, Nat.reduceSub, Nat.reduceMul, Nat.reduceLT, Nat.reduceLeDiff, Nat.reduceEqDiff, Nat.reduceDiv, Nat.reduceMod, Nat.reducePow, Int.reduceAdd, Int.reduceSub, Int.reduceMul, Int.reduceLT, Int.reduceLE, Int.reduceEq, Int.reduceNe, Int.reducePow, Int.reduceToNat, Int.reduceNeg]
    rintro s ⟨k, hk, hs⟩
    have tl := tab_len (ep A (hd false)) k
    have hek := hep k
    by_cases hkl : k < A.length
    · have hz := hA.get (by decide) k
      have st := step_giv false _ _ hek hz
      by_cases hg : nxok false (ep A (hd false) k) (A.getD k 0)
      · have et : tab (ep A (hd false)) (k + 1) = tab (ep A (hd false)) k ++ [ep A (hd false) k] := rfl
        have ex : ep A (hd false) (k + 1) = nx (ep A (hd false) k) (A.getD k 0) := rfl
        have hkn : k < n := by
          rcases hend with q | q
          · omega
          · refine Decidable.byContradiction fun c => ?_
            obtain rfl : k = n := by omega
            exact q hg
        rw [if_pos hg, decide_eq_true hg] at st
        simp -dsimp -implicitDefEqProofs (disch := first | omega | (simp only [List.length_append, List.length_cons, List.length_nil, List.length_take, List.length_drop]; omega)) only [hs, ↓aPre, aPost, oneW, allOne, retV, retVA, ↓reduceIte, reduceCtorEq, Nat.reduceAdd, Nat.reduceSub, Nat.reduceMul, Nat.reduceLT, Nat.reduceLeDiff, Nat.reduceEqDiff, Nat.reduceDiv, Nat.reduceMod, Nat.reducePow, Int.reduceAdd, Int.reduceSub, Int.reduceMul, Int.reduceLT, Int.reduceLE, Int.reduceEq, Int.reduceNe, Int.reducePow, Int.reduceToNat, Int.reduceNeg]
        refine call_giv st ?_
        simp -dsimp -implicitDefEqProofs (disch := first | omega | (simp only [List.length_append, List.length_cons, List.length_nil, List.length_take, List.length_drop]; omega)) only [hs, tl, ↓aPre, aPost, oneW, allOne, retV, retVA, ↓reduceIte, reduceCtorEq, Nat.reduceAdd, Nat.reduceSub, Nat.reduceMul, Nat.reduceLT, Nat.reduceLeDiff, Nat.reduceEqDiff, Nat.reduceDiv, Nat.reduceMod, Nat.reducePow, Int.reduceAdd, Int.reduceSub, Int.reduceMul, Int.reduceLT, Int.reduceLE, Int.reduceEq, Int.reduceNe, Int.reducePow, Int.reduceToNat, Int.reduceNeg]
        refine round_of ⟨k + 1, by omega, ?_⟩ ?_
        · simp -dsimp -implicitDefEqProofs (disch := first | omega | (simp only [List.length_append, List.length_cons, List.length_nil, List.length_take, List.length_drop]; omega)) only [hs, tl, et, ex, ↓aPre, aPost, oneW, allOne, retV, retVA, ↓reduceIte, reduceCtorEq, Nat.reduceAdd, Nat.reduceSub, Nat.reduceMul, Nat.reduceLT, Nat.reduceLeDiff, Nat.reduceEqDiff, Nat.reduceDiv, Nat.reduceMod, Nat.reducePow, Int.reduceAdd, Int.reduceSub, Int.reduceMul, Int.reduceLT, Int.reduceLE, Int.reduceEq, Int.reduceNe, Int.reducePow, Int.reduceToNat, Int.reduceNeg]
        · simp -dsimp -implicitDefEqProofs (disch := first | omega | (simp only [List.length_append, List.length_cons, List.length_nil, List.length_take, List.length_drop]; omega)) only [hs, ↓aPre, aPost, oneW, allOne, retV, retVA, ↓reduceIte, reduceCtorEq, Nat.reduceAdd, Nat.reduceSub, Nat.reduceMul, Nat.reduceLT, Nat.reduceLeDiff, Nat.reduceEqDiff, Nat.reduceDiv, Nat.reduceMod, Nat.reducePow, Int.reduceAdd, Int.reduceSub, Int.reduceMul, Int.reduceLT, Int.reduceLE, Int.reduceEq, Int.reduceNe, Int.reducePow, Int.reduceToNat, Int.reduceNeg]
          omega
      · rw [if_neg hg, decide_eq_false hg] at st
        have hne : ¬ n = A.length := fun e => hg (hok k (by omega))
        simp -dsimp -implicitDefEqProofs (disch := first | omega | (simp only [List.length_append, List.length_cons, List.length_nil, List.length_take, List.length_drop]; omega)) only [hs, ↓aPre, aPost, oneW, allOne, retV, retVA, ↓reduceIte, reduceCtorEq, Nat.reduceAdd, Nat.reduceSub, Nat.reduceMul, Nat.reduceLT, Nat.reduceLeDiff, Nat.reduceEqDiff, Nat.reduceDiv, Nat.reduceMod, Nat.reducePow, Int.reduceAdd, Int.reduceSub, Int.reduceMul, Int.reduceLT, Int.reduceLE, Int.reduceEq, Int.reduceNe, Int.reducePow, Int.reduceToNat, Int.reduceNeg]
        refine call_giv st ?_
        simp -dsimp -implicitDefEqProofs (disch := first | omega | (simp only [List.length_append, List.length_cons, List.length_nil, List.length_take, List.length_drop]; omega)) only [hs, ↓aPre, aPost, oneW, allOne, retV, retVA, ↓reduceIte, reduceCtorEq, Nat.reduceAdd, Nat.reduceSub, Nat.reduceMul, Nat.reduceLT, Nat.reduceLeDiff, Nat.reduceEqDiff, Nat.reduceDiv, Nat.reduceMod, Nat.reducePow, Int.reduceAdd, Int.reduceSub, Int.reduceMul, Int.reduceLT, Int.reduceLE, Int.reduceEq, Int.reduceNe, Int.reducePow, Int.reduceToNat, Int.reduceNeg]
        exact post_le (by rw [if_neg hne]; repeat (first | exact leD.nil | exact leE.refl _ | exact leE.nil _ | refine leD.cons ?_ ?_ | refine leE.agg ?_))
    · obtain rfl : k = A.length := by omega
      obtain rfl : n = A.length := by omega
      simp -dsimp -implicitDefEqProofs (disch := first | omega | (simp only [List.length_append, List.length_cons, List.length_nil, List.length_take, List.length_drop]; omega)) only [hs, tl, ↓aPre, aPost, oneW, allOne, retV, retVA, ↓reduceIte, reduceCtorEq, Nat.reduceAdd, Nat.reduceSub, Nat.reduceMul, Nat.reduceLT, Nat.reduceLeDiff, Nat.reduceEqDiff, Nat.reduceDiv, Nat.reduceMod, Nat.reducePow, Int.reduceAdd, Int.reduceSub, Int.reduceMul, Int.reduceLT, Int.reduceLE, Int.reduceEq, Int.reduceNe, Int.reducePow, Int.reduceToNat, Int.reduceNeg]
      exact post_eq (by rw [if_pos rfl])
  | true =>
    simp -dsimp -implicitDefEqProofs (disch := first | omega | (simp only [List.length_append, List.length_cons, List.length_nil, List.length_take, List.length_drop]; omega)) only [a7, ↓aPre, aPost, oneW, allOne, retV, retVA, ↓reduceIte, reduceCtorEq, Nat.reduceAdd, Nat.reduceSub, Nat.reduceMul, Nat.reduceLT, Nat.reduceLeDiff, Nat.reduceEqDiff, Nat.reduceDiv, Nat.reduceMod, Nat.reducePow, Int.reduceAdd, Int.reduceSub, Int.reduceMul, Int.reduceLT, Int.reduceLE, Int.reduceEq, Int.reduceNe, Int.reducePow, Int.reduceToNat, Int.reduceNeg]
    refine loop_nil 8 100 1 (fun s => ∃ (k : Nat), k ≤ n ∧ s.tm 9 = .d (.c (.int .i64 k)) ∧ s.tm 0 = .d (.lst 1 (li .u64 A)) ∧ s.tm 1 = .d (.c (.bool true)) ∧ s.tm 7 = .d (.c (.int .u64 (ep A (hd true) k))) ∧ s.tm 8 = .sl 100 1 0 k ∧ s.hp 100 = some (.row 1 (li .u64 (tab (ep A (hd true)) k)))) (fun s => A.length - (avN (s.tm 9)).toNat) ?_ (by decide) ?_ ?_
    · simp -dsimp -implicitDefEqProofs (disch := first | omega | (simp only [List.length_append, List.length_cons, List.length_nil, List.length_take, List.length_drop]; omega)) only [↓aPre, aPost, oneW, allOne, retV, retVA, ↓reduceIte, reduceCtorEq, Nat.reduceAdd, Nat.reduceSub, Nat.reduceMul, Nat.reduceLT, Nat.reduceLeDiff, Nat.reduceEqDiff, Nat.reduceDiv, Nat.reduceMod, Nat.reducePow, Int.reduceAdd, Int.reduceSub, Int.reduceMul, Int.reduceLT, Int.reduceLE, Int.reduceEq, Int.reduceNe, Int.reducePow, Int.reduceToNat, Int.reduceNeg]
    · refine ⟨0, Nat.zero_le _, ?_⟩
      simp -dsimp -implicitDefEqProofs (disch := first | omega | (simp only [List.length_append, List.length_cons, List.length_nil, List.length_take, List.length_drop]; omega)) only [tab, ep, hd, Int.natCast_zero, ↓aPre, aPost, oneW, allOne, retV, retVA, ↓reduceIte, reduceCtorEq, Nat.reduceAdd, Nat.reduceSub, Nat.reduceMul, Nat.reduceLT, Nat.reduceLeDiff, Nat.reduceEqDiff, Nat.reduceDiv, Nat.reduceMod, Nat.reducePow, Int.reduceAdd, Int.reduceSub, Int.reduceMul, Int.reduceLT, Int.reduceLE, Int.reduceEq, Int.reduceNe, Int.reducePow, Int.reduceToNat, Int.reduceNeg]
    rintro s ⟨k, hk, hs⟩
    have tl := tab_len (ep A (hd true)) k
    have hek := hep k
    by_cases hkl : k < A.length
    · have hz := hA.get (by decide) k
      have st := step_giv true _ _ hek hz
      by_cases hg : nxok true (ep A (hd true) k) (A.getD k 0)
      · have et : tab (ep A (hd true)) (k + 1) = tab (ep A (hd true)) k ++ [ep A (hd true) k] := rfl
        have ex : ep A (hd true) (k + 1) = nx (ep A (hd true) k) (A.getD k 0) := rfl
        have hkn : k < n := by
          rcases hend with q | q
          · omega
          · refine Decidable.byContradiction fun c => ?_
            obtain rfl : k = n := by omega
            exact q hg
        rw [if_pos hg, decide_eq_true hg] at st
        simp -dsimp -implicitDefEqProofs (disch := first | omega | (simp only [List.length_append, List.length_cons, List.length_nil, List.length_take, List.length_drop]; omega)) only [hs, ↓aPre, aPost, oneW, allOne, retV, retVA, ↓reduceIte, reduceCtorEq, Nat.reduceAdd, Nat.reduceSub, Nat.reduceMul, Nat.reduceLT, Nat.reduceLeDiff, Nat.reduceEqDiff, Nat.reduceDiv, Nat.reduceMod, Nat.reducePow, Int.reduceAdd, Int.reduceSub, Int.reduceMul, Int.reduceLT, Int.reduceLE, Int.reduceEq, Int.reduceNe, Int.reducePow, Int.reduceToNat, Int.reduceNeg]
        refine call_giv st ?_
        simp -dsimp -implicitDefEqProofs (disch := first | omega | (simp only [List.length_append, List.length_cons, List.length_nil, List.length_take, List.length_drop]; omega)) only [hs, tl, ↓aPre, aPost, oneW, allOne, retV, retVA, ↓reduceIte, reduceCtorEq, Nat.reduceAdd, Nat.reduceSub, Nat.reduceMul, Nat.reduceLT, Nat.reduceLeDiff, Nat.reduceEqDiff, Nat.reduceDiv, Nat.reduceMod, Nat.reducePow, Int.reduceAdd, Int.reduceSub, Int.reduceMul, Int.reduceLT, Int.reduceLE, Int.reduceEq, Int.reduceNe, Int.reducePow, Int.reduceToNat, Int.reduceNeg]
        refine round_of ⟨k + 1, by omega, ?_⟩ ?_
        · simp -dsimp -implicitDefEqProofs (disch := first | omega | (simp only [List.length_append, List.length_cons, List.length_nil, List.length_take, List.length_drop]; omega)) only [hs, tl, et, ex, ↓aPre, aPost, oneW, allOne, retV, retVA, ↓reduceIte, reduceCtorEq, Nat.reduceAdd, Nat.reduceSub, Nat.reduceMul, Nat.reduceLT, Nat.reduceLeDiff, Nat.reduceEqDiff, Nat.reduceDiv, Nat.reduceMod, Nat.reducePow, Int.reduceAdd, Int.reduceSub, Int.reduceMul, Int.reduceLT, Int.reduceLE, Int.reduceEq, Int.reduceNe, Int.reducePow, Int.reduceToNat, Int.reduceNeg]
        · simp -dsimp -implicitDefEqProofs (disch := first | omega | (simp only [List.length_append, List.length_cons, List.length_nil, List.length_take, List.length_drop]; omega)) only [hs, ↓aPre, aPost, oneW, allOne, retV, retVA, ↓reduceIte, reduceCtorEq, Nat.reduceAdd, Nat.reduceSub, Nat.reduceMul, Nat.reduceLT, Nat.reduceLeDiff, Nat.reduceEqDiff, Nat.reduceDiv, Nat.reduceMod, Nat.reducePow, Int.reduceAdd, Int.reduceSub, Int.reduceMul, Int.reduceLT, Int.reduceLE, Int.reduceEq, Int.reduceNe, Int.reducePow, Int.reduceToNat, Int.reduceNeg]
          omega
      · rw [if_neg hg, decide_eq_false hg] at st
        have hne : ¬ n = A.length := fun e => hg (hok k (by omega))
        simp -dsimp -implicitDefEqProofs (disch := first | omega | (simp only [List.length_append, List.length_cons, List.length_nil, List.length_take, List.length_drop]; omega)) only [hs, ↓aPre, aPost, oneW, allOne, retV, retVA, ↓reduceIte, reduceCtorEq, Nat.reduceAdd, Nat.reduceSub, Nat.reduceMul, Nat.reduceLT, Nat.reduceLeDiff, Nat.reduceEqDiff, Nat.reduceDiv, Nat.reduceMod, Nat.reducePow, Int.reduceAdd, Int.reduceSub, Int.reduceMul, Int.reduceLT, Int.reduceLE, Int.reduceEq, Int.reduceNe, Int.reducePow, Int.reduceToNat, Int.reduceNeg]
        refine call_giv st ?_
        simp -dsimp -implicitDefEqProofs (disch := first | omega | (simp only [List.length_append, List.length_cons, List.length_nil, List.length_take, List.length_drop]; omega)) only [hs, ↓aPre, aPost, oneW, allOne, retV, retVA, ↓reduceIte, reduceCtorEq, Nat.reduceAdd, Nat.reduceSub, Nat.reduceMul, Nat.reduceLT, Nat.reduceLeDiff, Nat.reduceEqDiff, Nat.reduceDiv, Nat.reduceMod, Nat.reducePow, Int.reduceAdd, Int.reduceSub, Int.reduceMul, Int.reduceLT, Int.reduceLE, Int.reduceEq, Int.reduceNe, Int.reducePow, Int.reduceToNat, Int.reduceNeg]
        exact post_le (by rw [if_neg hne]; repeat (first | exact leD.nil | exact leE.refl _ | exact leE.nil _ | refine leD.cons ?_ ?_ | refine leE.agg ?_))
    · obtain rfl : k = A.length := by omega
      obtain rfl : n = A.length := by omega
      simp -dsimp -implicitDefEqProofs (disch := first | omega | (simp only [List.length_append, List.length_cons, List.length_nil, List.length_take, List.length_drop]; omega)) only [hs, tl, ↓aPre, aPost, oneW, allOne, retV, retVA, ↓reduceIte, reduceCtorEq, Nat.reduceAdd, Nat.reduceSub, Nat.reduceMul, Nat.reduceLT, Nat.reduceLeDiff, Nat.reduceEqDiff, Nat.reduceDiv, Nat.reduceMod, Nat.reducePow, Int.reduceAdd, Int.reduceSub, Int.reduceMul, Int.reduceLT, Int.reduceLE, Int.reduceEq, Int.reduceNe, Int.reducePow, Int.reduceToNat, Int.reduceNeg]
      exact post_eq (by rw [if_pos rfl])
theorem lives_t : Giv Try.prog 5 [] (retV [.c (.bool true)]) := by
  have h : Ok [([5], 18)] := ⟨by decide, fun j hj => by
    obtain rfl : j = 0 := by simpa using hj
    exact ⟨by decide, In.one (by decide), by decide, by decide⟩⟩
  have hp := plan_giv false [([5], 18)] h 1 (by decide) (by decide) (.inl rfl)
  rw [if_pos (show 1 = ([([5], 18)] : List Pg).length from rfl)] at hp
  refine Giv.of mixed c5 (Nat.le_of_ble_eq_true rfl) ?_
  have e0 : tabP (pl [([5], 18)] (hd false)) 1 = [([8], 14)] := by decide +kernel
  have e1 : (tabP (pl [([5], 18)] (hd false)) 1).map pgD = [.agg [.lst 1 (li .u64 [8]), .c (.int .u64 14)]] := by rw [e0]; rfl
  have e2 : pa [([5], 18)] (hd false) 1 = 32 := by decide +kernel
  have e3 : ([([5], 18)] : List Pg).map pgD = [.agg [.lst 1 (li .u64 [5]), .c (.int .u64 18)]] := rfl
  rw [e1, e2, e3] at hp
  simp -dsimp -implicitDefEqProofs (disch := first | omega | (simp only [List.length_append, List.length_cons, List.length_nil, List.length_take, List.length_drop]; omega)) only [a5, ↓aPre, aPost, oneW, allOne, retV, retVA, ↓reduceIte, reduceCtorEq, Nat.reduceAdd, Nat.reduceSub, Nat.reduceMul, Nat.reduceLT, Nat.reduceLeDiff, Nat.reduceEqDiff, Nat.reduceDiv, Nat.reduceMod, Nat.reducePow, Int.reduceAdd, Int.reduceSub, Int.reduceMul, Int.reduceLT, Int.reduceLE, Int.reduceEq, Int.reduceNe, Int.reducePow, Int.reduceToNat, Int.reduceNeg]
  refine call_giv hp ?_
  simp -dsimp -implicitDefEqProofs (disch := first | omega | (simp only [List.length_append, List.length_cons, List.length_nil, List.length_take, List.length_drop]; omega)) only [↓aPre, aPost, oneW, allOne, retV, retVA, ↓reduceIte, reduceCtorEq, Nat.reduceAdd, Nat.reduceSub, Nat.reduceMul, Nat.reduceLT, Nat.reduceLeDiff, Nat.reduceEqDiff, Nat.reduceDiv, Nat.reduceMod, Nat.reducePow, Int.reduceAdd, Int.reduceSub, Int.reduceMul, Int.reduceLT, Int.reduceLE, Int.reduceEq, Int.reduceNe, Int.reducePow, Int.reduceToNat, Int.reduceNeg]
  exact post_eq rfl
/-- the first j pages' things, one behind the other -/
def fl (l : List Pg) : Nat → List Int
  | 0 => []
  | j + 1 => fl l j ++ (pg l j).l
theorem fl_pa (l : List Pg) (a : Int) : ∀ j, pa l a j = ep (fl l j) a (fl l j).length
  | 0 => rfl
  | j + 1 => by
    rw [pa, fl, List.length_append, ep_app2, ← fl_pa l a j, Pg.len]
theorem fl_gd (lg : Bool) (l : List Pg) (a : Int) : ∀ j, gd lg (fl l j) a (fl l j).length ↔ ∀ i, i < j → pok lg l a i
  | 0 => ⟨fun _ i hi => absurd hi (Nat.not_lt_zero _), fun _ i hi => absurd hi (Nat.not_lt_zero _)⟩
  | j + 1 => by
    rw [fl, List.length_append, gd_app, fl_gd lg l a j, ← fl_pa l a j, Pg.len]
    constructor
    · rintro ⟨h1, h2⟩ i hi
      by_cases e : i = j
      · rw [e]; exact h2
      · exact h1 i (by omega)
    · intro h
      exact ⟨fun i hi => h i (by omega), h j (by omega)⟩
theorem fl_pl (l : List Pg) (a : Int) (n : Nat) : ∀ j, j ≤ n → fl (tabP (pl l a) n) j = tab (ep (fl l j) a) (fl l j).length
  | 0, _ => rfl
  | j + 1, hj => by
    rw [fl, fl, fl_pl l a n j (by omega), tabP_get _ (by omega), pl, Pg.l, List.length_append, Pg.len]
    have e1 : tab (ep (pg l j).l (pa l a j)) (pg l j).1.length ++ [ep (pg l j).l (pa l a j) (pg l j).1.length] = tab (ep (pg l j).l (pa l a j)) ((pg l j).1.length + 1) := rfl
    show _ ++ (tab (ep (pg l j).l (pa l a j)) (pg l j).1.length ++ [ep (pg l j).l (pa l a j) (pg l j).1.length]) = _
    rw [e1, tab_app]
    refine tab_congr _ fun i hi => ?_
    by_cases c : i < (fl l j).length
    · rw [if_pos c, ep_app i (by omega)]
    · rw [if_neg c, fl_pa l a j, ← ep_app2]
      congr 1
      omega
theorem fl_in {l : List Pg} (h : Ok l) : ∀ j, j ≤ l.length → In 18446744073709551616 (fl l j)
  | 0, _ => In.nil _
  | j + 1, hj => (fl_in h j (by omega)).app (h.l (by omega))
theorem fl_len {l : List Pg} : ∀ j, (∀ i, i < j → (pg l i).1.length ≤ 100) → (fl l j).length ≤ 101 * j
  | 0, _ => Nat.le_refl _
  | j + 1, h => by
    have := fl_len (l := l) j fun i hi => h i (by omega)
    have := h j (by omega)
    rw [fl, List.length_append, Pg.len]
    omega
end Go.Proofs.Ytmgnjonpoeoeaaa
