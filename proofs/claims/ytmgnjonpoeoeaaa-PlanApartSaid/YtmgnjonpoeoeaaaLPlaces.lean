/- PlanPlaces: the law's function gives true of all data. No condition but that whole numbers are of their kinds. -/
import Derived.Test.YtmgnjonpoeoeaaaWAll
set_option linter.unusedSimpArgs false
set_option linter.unusedVariables false
set_option maxRecDepth 8000
set_option maxHeartbeats 4000000
namespace Go.Proofs.Ytmgnjonpoeoeaaa
open Go.Eng Go.RowKit
theorem ok_of {y0 : List ((List Int) × (Int))} (h0 : (y0.length * 32 ≤ 140737488351232 ∧ ∀ e ∈ y0, ((e.1.length * 8 ≤ 140737488351232 ∧ ∀ z ∈ e.1, 0 ≤ z ∧ z ≤ 18446744073709551615) ∧ (0 ≤ e.2 ∧ e.2 ≤ 18446744073709551615)))) : Ok y0 := by
  refine ⟨h0.1, fun j hj => ?_⟩
  have hm : pg y0 j ∈ y0 := by
    rw [pg, List.getD, List.getElem?_eq_getElem hj]
    exact List.getElem_mem _
  obtain ⟨⟨h1, h2⟩, h3⟩ := h0.2 _ hm
  exact ⟨h1, fun z hz => by have := h2 z hz; omega, by unfold U; omega⟩
theorem planPlaces_giv (y0 : List ((List Int) × (Int))) (h0 : (y0.length * 32 ≤ 140737488351232 ∧ ∀ e ∈ y0, ((e.1.length * 8 ≤ 140737488351232 ∧ ∀ z ∈ e.1, 0 ≤ z ∧ z ≤ 18446744073709551615) ∧ (0 ≤ e.2 ∧ e.2 ≤ 18446744073709551615)))) (y1 : Bool) (h1 : True) : Giv Try.prog 3 [.lst 2 (y0.map fun y => .agg [.lst 1 (li .u64 y.1), .c (.int .u64 y.2)]), .c (.bool y1)] (.d (.c (.bool true))) := by
  have hO := ok_of h0
  obtain ⟨l, rfl⟩ : ∃ l : List Pg, l = y0 := ⟨_, rfl⟩
  show Giv Try.prog 3 [.lst 2 (l.map pgD), .c (.bool y1)] (.d (.c (.bool true)))
  have hlen := pgs_len l
  have hll := h0.1
  have hu := hd_u y1
  refine Giv.of (out := [.c (.bool true)]) mixed c3 (Nat.le_of_ble_eq_true rfl) ?_
  simp -dsimp -implicitDefEqProofs (disch := first | omega | (simp only [List.length_append, List.length_cons, List.length_nil, List.length_take, List.length_drop]; omega)) only [a3, ↓aPre, aPost, oneW, allOne, retV, retVA, ↓reduceIte, reduceCtorEq, Nat.reduceAdd, Nat.reduceSub, Nat.reduceMul, Nat.reduceLT, Nat.reduceLeDiff, Nat.reduceEqDiff, Nat.reduceDiv, Nat.reduceMod, Nat.reducePow, Int.reduceAdd, Int.reduceSub, Int.reduceMul, Int.reduceLT, Int.reduceLE, Int.reduceEq, Int.reduceNe, Int.reducePow, Int.reduceToNat, Int.reduceNeg]
  refine call_giv lives_t ?_
  by_cases hb : l.length > 40
  · have hb' : (l.length : Int) > 40 := by omega
    simp -dsimp -implicitDefEqProofs (disch := first | omega | (simp only [List.length_append, List.length_cons, List.length_nil, List.length_take, List.length_drop]; omega)) only [hlen, hb', ↓aPre, aPost, oneW, allOne, retV, retVA, ↓reduceIte, reduceCtorEq, Nat.reduceAdd, Nat.reduceSub, Nat.reduceMul, Nat.reduceLT, Nat.reduceLeDiff, Nat.reduceEqDiff, Nat.reduceDiv, Nat.reduceMod, Nat.reducePow, Int.reduceAdd, Int.reduceSub, Int.reduceMul, Int.reduceLT, Int.reduceLE, Int.reduceEq, Int.reduceNe, Int.reducePow, Int.reduceToNat, Int.reduceNeg]
    refine call_giv lives_t ?_
    simp -dsimp -implicitDefEqProofs (disch := first | omega | (simp only [List.length_append, List.length_cons, List.length_nil, List.length_take, List.length_drop]; omega)) only [↓aPre, aPost, oneW, allOne, retV, retVA, ↓reduceIte, reduceCtorEq, Nat.reduceAdd, Nat.reduceSub, Nat.reduceMul, Nat.reduceLT, Nat.reduceLeDiff, Nat.reduceEqDiff, Nat.reduceDiv, Nat.reduceMod, Nat.reducePow, Int.reduceAdd, Int.reduceSub, Int.reduceMul, Int.reduceLT, Int.reduceLE, Int.reduceEq, Int.reduceNe, Int.reducePow, Int.reduceToNat, Int.reduceNeg]
    exact post_eq rfl
  have hb' : ¬ (l.length : Int) > 40 := by omega
  simp -dsimp -implicitDefEqProofs (disch := first | omega | (simp only [List.length_append, List.length_cons, List.length_nil, List.length_take, List.length_drop]; omega)) only [hlen, hb', ↓aPre, aPost, oneW, allOne, retV, retVA, ↓reduceIte, reduceCtorEq, Nat.reduceAdd, Nat.reduceSub, Nat.reduceMul, Nat.reduceLT, Nat.reduceLeDiff, Nat.reduceEqDiff, Nat.reduceDiv, Nat.reduceMod, Nat.reducePow, Int.reduceAdd, Int.reduceSub, Int.reduceMul, Int.reduceLT, Int.reduceLE, Int.reduceEq, Int.reduceNe, Int.reducePow, Int.reduceToNat, Int.reduceNeg]
  refine loop_nil 5 100 1 (fun s => ∃ (j : Nat), j ≤ l.length ∧ (∀ i, i < j → (pg l i).1.length ≤ 100) ∧ s.tm 28 = .d (.c (.int .i64 j)) ∧ s.tm 27 = .d (.c (.int .i64 l.length)) ∧ s.tm 26 = .d (.lst 2 (l.map pgD)) ∧ s.tm 0 = .d (.lst 2 (l.map pgD)) ∧ s.tm 1 = .d (.c (.bool y1)) ∧ s.tm 5 = .sl 100 1 0 (fl l j).length ∧ s.hp 100 = some (.row 1 (li .u64 (fl l j)))) (fun s => l.length - (avN (s.tm 28)).toNat) ?_ (by decide) ?_ ?_
  · simp -dsimp -implicitDefEqProofs (disch := first | omega | (simp only [List.length_append, List.length_cons, List.length_nil, List.length_take, List.length_drop]; omega)) only [↓aPre, aPost, oneW, allOne, retV, retVA, ↓reduceIte, reduceCtorEq, Nat.reduceAdd, Nat.reduceSub, Nat.reduceMul, Nat.reduceLT, Nat.reduceLeDiff, Nat.reduceEqDiff, Nat.reduceDiv, Nat.reduceMod, Nat.reducePow, Int.reduceAdd, Int.reduceSub, Int.reduceMul, Int.reduceLT, Int.reduceLE, Int.reduceEq, Int.reduceNe, Int.reducePow, Int.reduceToNat, Int.reduceNeg]
  · refine ⟨0, Nat.zero_le _, fun i hi => absurd hi (Nat.not_lt_zero _), ?_⟩
    simp -dsimp -implicitDefEqProofs (disch := first | omega | (simp only [List.length_append, List.length_cons, List.length_nil, List.length_take, List.length_drop]; omega)) only [fl, Int.natCast_zero, ↓aPre, aPost, oneW, allOne, retV, retVA, ↓reduceIte, reduceCtorEq, Nat.reduceAdd, Nat.reduceSub, Nat.reduceMul, Nat.reduceLT, Nat.reduceLeDiff, Nat.reduceEqDiff, Nat.reduceDiv, Nat.reduceMod, Nat.reducePow, Int.reduceAdd, Int.reduceSub, Int.reduceMul, Int.reduceLT, Int.reduceLE, Int.reduceEq, Int.reduceNe, Int.reducePow, Int.reduceToNat, Int.reduceNeg]
  rintro s ⟨j, hj, hsm, hs⟩
  have hfl := fl_len j hsm
  by_cases hlt : j < l.length
  · have eg := pgs_get hlt
    by_cases hp : (pg l j).1.length > 100
    · have hp' : ((pg l j).1.length : Int) > 100 := by omega
      simp -dsimp -implicitDefEqProofs (disch := first | omega | (simp only [List.length_append, List.length_cons, List.length_nil, List.length_take, List.length_drop]; omega)) only [hs, hlen, eg, pgD, hp', ↓aPre, aPost, oneW, allOne, retV, retVA, ↓reduceIte, reduceCtorEq, Nat.reduceAdd, Nat.reduceSub, Nat.reduceMul, Nat.reduceLT, Nat.reduceLeDiff, Nat.reduceEqDiff, Nat.reduceDiv, Nat.reduceMod, Nat.reducePow, Int.reduceAdd, Int.reduceSub, Int.reduceMul, Int.reduceLT, Int.reduceLE, Int.reduceEq, Int.reduceNe, Int.reducePow, Int.reduceToNat, Int.reduceNeg]
      exact post_eq rfl
    have hp' : ¬ ((pg l j).1.length : Int) > 100 := by omega
    have ef : fl l j ++ (pg l j).1 ++ [(pg l j).2] = fl l (j + 1) := by rw [fl, Pg.l, List.append_assoc]
    have ef2 : (fl l (j + 1)).length = (fl l j).length + (pg l j).1.length + 1 := by rw [← ef]; simp [Nat.add_assoc]
    simp -dsimp -implicitDefEqProofs (disch := first | omega | (simp only [List.length_append, List.length_cons, List.length_nil, List.length_take, List.length_drop]; omega)) only [hs, hlen, eg, pgD, hp', ↓aPre, aPost, oneW, allOne, retV, retVA, ↓reduceIte, reduceCtorEq, Nat.reduceAdd, Nat.reduceSub, Nat.reduceMul, Nat.reduceLT, Nat.reduceLeDiff, Nat.reduceEqDiff, Nat.reduceDiv, Nat.reduceMod, Nat.reducePow, Int.reduceAdd, Int.reduceSub, Int.reduceMul, Int.reduceLT, Int.reduceLE, Int.reduceEq, Int.reduceNe, Int.reducePow, Int.reduceToNat, Int.reduceNeg]
    refine ⟨?_, ?_⟩
    all_goals
      refine round_of ⟨j + 1, by omega, fun i hi => ?_, ?_⟩ ?_
      · by_cases e : i = j
        · rw [e]; omega
        · exact hsm i (by omega)
      · simp -dsimp -implicitDefEqProofs (disch := first | omega | (simp only [List.length_append, List.length_cons, List.length_nil, List.length_take, List.length_drop]; omega)) only [hs, hlen, eg, pgD, hp', ef, ef2, li_append, ↓aPre, aPost, oneW, allOne, retV, retVA, ↓reduceIte, reduceCtorEq, Nat.reduceAdd, Nat.reduceSub, Nat.reduceMul, Nat.reduceLT, Nat.reduceLeDiff, Nat.reduceEqDiff, Nat.reduceDiv, Nat.reduceMod, Nat.reducePow, Int.reduceAdd, Int.reduceSub, Int.reduceMul, Int.reduceLT, Int.reduceLE, Int.reduceEq, Int.reduceNe, Int.reducePow, Int.reduceToNat, Int.reduceNeg]
      · simp -dsimp -implicitDefEqProofs (disch := first | omega | (simp only [List.length_append, List.length_cons, List.length_nil, List.length_take, List.length_drop]; omega)) only [hs, ↓aPre, aPost, oneW, allOne, retV, retVA, ↓reduceIte, reduceCtorEq, Nat.reduceAdd, Nat.reduceSub, Nat.reduceMul, Nat.reduceLT, Nat.reduceLeDiff, Nat.reduceEqDiff, Nat.reduceDiv, Nat.reduceMod, Nat.reducePow, Int.reduceAdd, Int.reduceSub, Int.reduceMul, Int.reduceLT, Int.reduceLE, Int.reduceEq, Int.reduceNe, Int.reducePow, Int.reduceToNat, Int.reduceNeg]
        omega
  obtain rfl : j = l.length := by omega
  obtain ⟨A, hA⟩ : ∃ A, A = fl l l.length := ⟨_, rfl⟩
  have hAI : In 18446744073709551616 A := by rw [hA]; exact fl_in hO _ (Nat.le_refl _)
  have hgd := fl_gd y1 l (hd y1) l.length
  have hpa := fl_pa l (hd y1) l.length
  rw [← hA] at hs hfl hgd hpa
  obtain ⟨n, hn, hok, hend⟩ := stop_ex (pok y1 l (hd y1)) l.length
  obtain ⟨m, hm, hmok, hmend⟩ := stop_ex (fun i => nxok y1 (ep A (hd y1) i) (A.getD i 0)) A.length
  have hplan := plan_giv y1 l hO n hn hok hend
  have hall := all_giv y1 A (by omega) hAI m hm hmok hmend
  by_cases hnl : n = l.length
  rotate_left
  · have hml : ¬ m = A.length := fun e => by
      rcases hend with q | q
      · exact hnl q
      · have := hgd.1 (by rw [← e]; exact hmok) n (by omega)
        exact q this
    rw [if_neg hnl] at hplan
    rw [if_neg hml] at hall
    simp -dsimp -implicitDefEqProofs (disch := first | omega | (simp only [List.length_append, List.length_cons, List.length_nil, List.length_take, List.length_drop]; omega)) only [hs, hlen, ↓aPre, aPost, oneW, allOne, retV, retVA, ↓reduceIte, reduceCtorEq, Nat.reduceAdd, Nat.reduceSub, Nat.reduceMul, Nat.reduceLT, Nat.reduceLeDiff, Nat.reduceEqDiff, Nat.reduceDiv, Nat.reduceMod, Nat.reducePow, Int.reduceAdd, Int.reduceSub, Int.reduceMul, Int.reduceLT, Int.reduceLE, Int.reduceEq, Int.reduceNe, Int.reducePow, Int.reduceToNat, Int.reduceNeg]
    refine call_giv hplan ?_
    simp -dsimp -implicitDefEqProofs (disch := first | omega | (simp only [List.length_append, List.length_cons, List.length_nil, List.length_take, List.length_drop]; omega)) only [hs, hlen, ↓aPre, aPost, oneW, allOne, retV, retVA, ↓reduceIte, reduceCtorEq, Nat.reduceAdd, Nat.reduceSub, Nat.reduceMul, Nat.reduceLT, Nat.reduceLeDiff, Nat.reduceEqDiff, Nat.reduceDiv, Nat.reduceMod, Nat.reducePow, Int.reduceAdd, Int.reduceSub, Int.reduceMul, Int.reduceLT, Int.reduceLE, Int.reduceEq, Int.reduceNe, Int.reducePow, Int.reduceToNat, Int.reduceNeg]
    refine call_giv hall ?_
    simp -dsimp -implicitDefEqProofs (disch := first | omega | (simp only [List.length_append, List.length_cons, List.length_nil, List.length_take, List.length_drop]; omega)) only [hs, ↓aPre, aPost, oneW, allOne, retV, retVA, ↓reduceIte, reduceCtorEq, Nat.reduceAdd, Nat.reduceSub, Nat.reduceMul, Nat.reduceLT, Nat.reduceLeDiff, Nat.reduceEqDiff, Nat.reduceDiv, Nat.reduceMod, Nat.reducePow, Int.reduceAdd, Int.reduceSub, Int.reduceMul, Int.reduceLT, Int.reduceLE, Int.reduceEq, Int.reduceNe, Int.reducePow, Int.reduceToNat, Int.reduceNeg]
    exact post_eq rfl
  have hml : m = A.length := by
    have hg := hgd.2 (by rw [← hnl]; exact hok)
    rcases hmend with q | q
    · exact q
    · refine Decidable.byContradiction fun c => q (hg m (by omega))
  rw [if_pos hnl, hnl, hpa] at hplan
  rw [if_pos hml, hml] at hall
  obtain ⟨pp, hpp⟩ : ∃ pp, pp = tabP (pl l (hd y1)) l.length := ⟨_, rfl⟩
  have hpl : pp.length = l.length := by rw [hpp, tabP_len]
  have hpm := pgs_len pp
  rw [← hpp] at hplan
  rw [hpl] at hpm
  simp -dsimp -implicitDefEqProofs (disch := first | omega | (simp only [List.length_append, List.length_cons, List.length_nil, List.length_take, List.length_drop]; omega)) only [hs, hlen, ↓aPre, aPost, oneW, allOne, retV, retVA, ↓reduceIte, reduceCtorEq, Nat.reduceAdd, Nat.reduceSub, Nat.reduceMul, Nat.reduceLT, Nat.reduceLeDiff, Nat.reduceEqDiff, Nat.reduceDiv, Nat.reduceMod, Nat.reducePow, Int.reduceAdd, Int.reduceSub, Int.reduceMul, Int.reduceLT, Int.reduceLE, Int.reduceEq, Int.reduceNe, Int.reducePow, Int.reduceToNat, Int.reduceNeg]
  refine call_giv hplan ?_
  simp -dsimp -implicitDefEqProofs (disch := first | omega | (simp only [List.length_append, List.length_cons, List.length_nil, List.length_take, List.length_drop]; omega)) only [hs, hlen, ↓aPre, aPost, oneW, allOne, retV, retVA, ↓reduceIte, reduceCtorEq, Nat.reduceAdd, Nat.reduceSub, Nat.reduceMul, Nat.reduceLT, Nat.reduceLeDiff, Nat.reduceEqDiff, Nat.reduceDiv, Nat.reduceMod, Nat.reducePow, Int.reduceAdd, Int.reduceSub, Int.reduceMul, Int.reduceLT, Int.reduceLE, Int.reduceEq, Int.reduceNe, Int.reducePow, Int.reduceToNat, Int.reduceNeg]
  refine call_giv hall ?_
  have tlA := tab_len (ep A (hd y1)) A.length
  simp -dsimp -implicitDefEqProofs (disch := first | omega | (simp only [List.length_append, List.length_cons, List.length_nil, List.length_take, List.length_drop]; omega)) only [hs, hlen, hpm, ↓aPre, aPost, oneW, allOne, retV, retVA, ↓reduceIte, reduceCtorEq, Nat.reduceAdd, Nat.reduceSub, Nat.reduceMul, Nat.reduceLT, Nat.reduceLeDiff, Nat.reduceEqDiff, Nat.reduceDiv, Nat.reduceMod, Nat.reducePow, Int.reduceAdd, Int.reduceSub, Int.reduceMul, Int.reduceLT, Int.reduceLE, Int.reduceEq, Int.reduceNe, Int.reducePow, Int.reduceToNat, Int.reduceNeg]
  have hflp : ∀ j, j ≤ l.length → fl pp j = tab (ep (fl l j) (hd y1)) (fl l j).length := fun j hj => by rw [hpp]; exact fl_pl l (hd y1) l.length j hj
  have hflA : fl pp l.length = tab (ep A (hd y1)) A.length := by rw [hflp _ (Nat.le_refl _), ← hA]
  refine loop_nil 14 101 1 (fun s => ∃ (j : Nat), j ≤ l.length ∧ s.tm 74 = .d (.c (.int .i64 j)) ∧ s.tm 73 = .d (.c (.int .i64 l.length)) ∧ s.tm 72 = .d (.lst 2 (pp.map pgD)) ∧ s.tm 0 = .d (.lst 2 (l.map pgD)) ∧ s.tm 8 = .d (.lst 2 (pp.map pgD)) ∧ s.tm 11 = .d (.lst 1 (li .u64 (tab (ep A (hd y1)) A.length))) ∧ s.tm 14 = .sl 101 1 0 (fl pp j).length ∧ s.hp 101 = some (.row 1 (li .u64 (fl pp j)))) (fun s => l.length - (avN (s.tm 74)).toNat) ?_ (by decide) ?_ ?_
  · simp -dsimp -implicitDefEqProofs (disch := first | omega | (simp only [List.length_append, List.length_cons, List.length_nil, List.length_take, List.length_drop]; omega)) only [↓aPre, aPost, oneW, allOne, retV, retVA, ↓reduceIte, reduceCtorEq, Nat.reduceAdd, Nat.reduceSub, Nat.reduceMul, Nat.reduceLT, Nat.reduceLeDiff, Nat.reduceEqDiff, Nat.reduceDiv, Nat.reduceMod, Nat.reducePow, Int.reduceAdd, Int.reduceSub, Int.reduceMul, Int.reduceLT, Int.reduceLE, Int.reduceEq, Int.reduceNe, Int.reducePow, Int.reduceToNat, Int.reduceNeg]
  · refine ⟨0, Nat.zero_le _, ?_⟩
    simp -dsimp -implicitDefEqProofs (disch := first | omega | (simp only [List.length_append, List.length_cons, List.length_nil, List.length_take, List.length_drop]; omega)) only [hs, fl, Int.natCast_zero, ↓aPre, aPost, oneW, allOne, retV, retVA, ↓reduceIte, reduceCtorEq, Nat.reduceAdd, Nat.reduceSub, Nat.reduceMul, Nat.reduceLT, Nat.reduceLeDiff, Nat.reduceEqDiff, Nat.reduceDiv, Nat.reduceMod, Nat.reducePow, Int.reduceAdd, Int.reduceSub, Int.reduceMul, Int.reduceLT, Int.reduceLE, Int.reduceEq, Int.reduceNe, Int.reducePow, Int.reduceToNat, Int.reduceNeg]
  clear hs
  rintro s ⟨j, hj, hs⟩
  by_cases hlt : j < l.length
  · have eg := pgs_get hlt
    have eg2 := pgs_get (l := pp) (j := j) (by omega)
    have epl : pg pp j = pl l (hd y1) j := by rw [hpp]; exact tabP_get _ hlt
    have ell : (pg pp j).1.length = (pg l j).1.length := by rw [epl, pl, tab_len]
    have hf1 : (fl pp j).length ≤ 101 * j := by
      rw [hflp j hj, tab_len]
      exact fl_len j fun i hi => hsm i (by omega)
    have hsj := hsm j hlt
    have ef : fl pp j ++ (pg pp j).1 ++ [(pg pp j).2] = fl pp (j + 1) := by rw [fl, Pg.l, List.append_assoc]
    have ef2 : (fl pp (j + 1)).length = (fl pp j).length + (pg l j).1.length + 1 := by rw [← ef]; simp [Nat.add_assoc, ell]
    simp -dsimp -implicitDefEqProofs (disch := first | omega | (simp only [List.length_append, List.length_cons, List.length_nil, List.length_take, List.length_drop]; omega)) only [hs, hlen, hpm, eg, eg2, pgD, ell, ↓aPre, aPost, oneW, allOne, retV, retVA, ↓reduceIte, reduceCtorEq, Nat.reduceAdd, Nat.reduceSub, Nat.reduceMul, Nat.reduceLT, Nat.reduceLeDiff, Nat.reduceEqDiff, Nat.reduceDiv, Nat.reduceMod, Nat.reducePow, Int.reduceAdd, Int.reduceSub, Int.reduceMul, Int.reduceLT, Int.reduceLE, Int.reduceEq, Int.reduceNe, Int.reducePow, Int.reduceToNat, Int.reduceNeg]
    refine ⟨?_, ?_⟩
    all_goals
      refine round_of ⟨j + 1, by omega, ?_⟩ ?_
      · simp -dsimp -implicitDefEqProofs (disch := first | omega | (simp only [List.length_append, List.length_cons, List.length_nil, List.length_take, List.length_drop]; omega)) only [hs, hlen, eg, pgD, ef, ef2, ell, li_append, ↓aPre, aPost, oneW, allOne, retV, retVA, ↓reduceIte, reduceCtorEq, Nat.reduceAdd, Nat.reduceSub, Nat.reduceMul, Nat.reduceLT, Nat.reduceLeDiff, Nat.reduceEqDiff, Nat.reduceDiv, Nat.reduceMod, Nat.reducePow, Int.reduceAdd, Int.reduceSub, Int.reduceMul, Int.reduceLT, Int.reduceLE, Int.reduceEq, Int.reduceNe, Int.reducePow, Int.reduceToNat, Int.reduceNeg]
      · simp -dsimp -implicitDefEqProofs (disch := first | omega | (simp only [List.length_append, List.length_cons, List.length_nil, List.length_take, List.length_drop]; omega)) only [hs, ↓aPre, aPost, oneW, allOne, retV, retVA, ↓reduceIte, reduceCtorEq, Nat.reduceAdd, Nat.reduceSub, Nat.reduceMul, Nat.reduceLT, Nat.reduceLeDiff, Nat.reduceEqDiff, Nat.reduceDiv, Nat.reduceMod, Nat.reducePow, Int.reduceAdd, Int.reduceSub, Int.reduceMul, Int.reduceLT, Int.reduceLE, Int.reduceEq, Int.reduceNe, Int.reducePow, Int.reduceToNat, Int.reduceNeg]
        omega
  obtain rfl : j = l.length := by omega
  rw [hflA] at hs
  simp -dsimp -implicitDefEqProofs (disch := first | omega | (simp only [List.length_append, List.length_cons, List.length_nil, List.length_take, List.length_drop]; omega)) only [hs, hlen, hpm, tlA, ↓aPre, aPost, oneW, allOne, retV, retVA, ↓reduceIte, reduceCtorEq, Nat.reduceAdd, Nat.reduceSub, Nat.reduceMul, Nat.reduceLT, Nat.reduceLeDiff, Nat.reduceEqDiff, Nat.reduceDiv, Nat.reduceMod, Nat.reducePow, Int.reduceAdd, Int.reduceSub, Int.reduceMul, Int.reduceLT, Int.reduceLE, Int.reduceEq, Int.reduceNe, Int.reducePow, Int.reduceToNat, Int.reduceNeg]
  refine loop_of (fun s => ∃ (k : Nat), k ≤ A.length ∧ s.tm 118 = .d (.c (.int .i64 k)) ∧ s.tm 117 = .d (.c (.int .i64 A.length)) ∧ s.tm 14 = .sl 101 1 0 A.length ∧ s.hp 101 = some (.row 1 (li .u64 (tab (ep A (hd y1)) A.length))) ∧ s.tm 11 = .d (.lst 1 (li .u64 (tab (ep A (hd y1)) A.length)))) (fun s => A.length - (avN (s.tm 118)).toNat) ?_ ?_
  · refine ⟨0, Nat.zero_le _, ?_⟩
    simp -dsimp -implicitDefEqProofs (disch := first | omega | (simp only [List.length_append, List.length_cons, List.length_nil, List.length_take, List.length_drop]; omega)) only [hs, tlA, Int.natCast_zero, ↓aPre, aPost, oneW, allOne, retV, retVA, ↓reduceIte, reduceCtorEq, Nat.reduceAdd, Nat.reduceSub, Nat.reduceMul, Nat.reduceLT, Nat.reduceLeDiff, Nat.reduceEqDiff, Nat.reduceDiv, Nat.reduceMod, Nat.reducePow, Int.reduceAdd, Int.reduceSub, Int.reduceMul, Int.reduceLT, Int.reduceLE, Int.reduceEq, Int.reduceNe, Int.reducePow, Int.reduceToNat, Int.reduceNeg]
  clear hs
  rintro s ⟨k, hk, hs⟩
  by_cases hkl : k < A.length
  · simp -dsimp -implicitDefEqProofs (disch := first | omega | (simp only [List.length_append, List.length_cons, List.length_nil, List.length_take, List.length_drop]; omega)) only [hs, tlA, ↓aPre, aPost, oneW, allOne, retV, retVA, ↓reduceIte, reduceCtorEq, Nat.reduceAdd, Nat.reduceSub, Nat.reduceMul, Nat.reduceLT, Nat.reduceLeDiff, Nat.reduceEqDiff, Nat.reduceDiv, Nat.reduceMod, Nat.reducePow, Int.reduceAdd, Int.reduceSub, Int.reduceMul, Int.reduceLT, Int.reduceLE, Int.reduceEq, Int.reduceNe, Int.reducePow, Int.reduceToNat, Int.reduceNeg]
    refine round_of ⟨k + 1, by omega, ?_⟩ ?_
    · simp -dsimp -implicitDefEqProofs (disch := first | omega | (simp only [List.length_append, List.length_cons, List.length_nil, List.length_take, List.length_drop]; omega)) only [hs, ↓aPre, aPost, oneW, allOne, retV, retVA, ↓reduceIte, reduceCtorEq, Nat.reduceAdd, Nat.reduceSub, Nat.reduceMul, Nat.reduceLT, Nat.reduceLeDiff, Nat.reduceEqDiff, Nat.reduceDiv, Nat.reduceMod, Nat.reducePow, Int.reduceAdd, Int.reduceSub, Int.reduceMul, Int.reduceLT, Int.reduceLE, Int.reduceEq, Int.reduceNe, Int.reducePow, Int.reduceToNat, Int.reduceNeg]
    · simp -dsimp -implicitDefEqProofs (disch := first | omega | (simp only [List.length_append, List.length_cons, List.length_nil, List.length_take, List.length_drop]; omega)) only [hs, ↓aPre, aPost, oneW, allOne, retV, retVA, ↓reduceIte, reduceCtorEq, Nat.reduceAdd, Nat.reduceSub, Nat.reduceMul, Nat.reduceLT, Nat.reduceLeDiff, Nat.reduceEqDiff, Nat.reduceDiv, Nat.reduceMod, Nat.reducePow, Int.reduceAdd, Int.reduceSub, Int.reduceMul, Int.reduceLT, Int.reduceLE, Int.reduceEq, Int.reduceNe, Int.reducePow, Int.reduceToNat, Int.reduceNeg]
      omega
  · obtain rfl : k = A.length := by omega
    simp -dsimp -implicitDefEqProofs (disch := first | omega | (simp only [List.length_append, List.length_cons, List.length_nil, List.length_take, List.length_drop]; omega)) only [hs, ↓aPre, aPost, oneW, allOne, retV, retVA, ↓reduceIte, reduceCtorEq, Nat.reduceAdd, Nat.reduceSub, Nat.reduceMul, Nat.reduceLT, Nat.reduceLeDiff, Nat.reduceEqDiff, Nat.reduceDiv, Nat.reduceMod, Nat.reducePow, Int.reduceAdd, Int.reduceSub, Int.reduceMul, Int.reduceLT, Int.reduceLE, Int.reduceEq, Int.reduceNe, Int.reducePow, Int.reduceToNat, Int.reduceNeg]
    exact post_eq rfl
end Go.Proofs.Ytmgnjonpoeoeaaa
