/- PlanApart: the law's function gives true of all data. No condition but that whole numbers are of their kinds. -/
import Derived.Test.YtmgnjonpoeoeaaaLPlaces
set_option linter.unusedSimpArgs false
set_option linter.unusedVariables false
set_option maxRecDepth 8000
set_option maxHeartbeats 4000000
namespace Go.Proofs.Ytmgnjonpoeoeaaa
open Go.Eng Go.RowKit
/-- an end, and the next even place behind it -/
def Gap (E a : Int) : Prop := 0 ≤ E ∧ E ≤ a ∧ a ≤ E + 1 ∧ a % 2 = 0 ∧ a < 18446744073709551616
theorem Gap.next {lg : Bool} {a n : Int} (ha : U a) (hn : U n) (h : nxok lg a n) : Gap (a + n) (nx a n) := by
  unfold Gap U at *
  have h1 := h.1
  rw [nx, if_pos h1]
  unfold nxR at *
  omega
theorem planApart_giv (y0 : List ((List Int) × (Int))) (h0 : (y0.length * 32 ≤ 140737488351232 ∧ ∀ e ∈ y0, ((e.1.length * 8 ≤ 140737488351232 ∧ ∀ z ∈ e.1, 0 ≤ z ∧ z ≤ 18446744073709551615) ∧ (0 ≤ e.2 ∧ e.2 ≤ 18446744073709551615)))) (y1 : Bool) (h1 : True) : Giv Try.prog 4 [.lst 2 (y0.map fun y => .agg [.lst 1 (li .u64 y.1), .c (.int .u64 y.2)]), .c (.bool y1)] (.d (.c (.bool true))) := by
  have hO := ok_of h0
  obtain ⟨l, rfl⟩ : ∃ l : List Pg, l = y0 := ⟨_, rfl⟩
  show Giv Try.prog 4 [.lst 2 (l.map pgD), .c (.bool y1)] (.d (.c (.bool true)))
  have hlen := pgs_len l
  have hll := h0.1
  have hu := hd_u y1
  refine Giv.of (out := [.c (.bool true)]) mixed c4 (Nat.le_of_ble_eq_true rfl) ?_
  simp -dsimp -implicitDefEqProofs (disch := first | omega | (simp only [List.length_append, List.length_cons, List.length_nil, List.length_take, List.length_drop]; omega)) only [a4, ↓aPre, aPost, oneW, allOne, retV, retVA, ↓reduceIte, reduceCtorEq, Nat.reduceAdd, Nat.reduceSub, Nat.reduceMul, Nat.reduceLT, Nat.reduceLeDiff, Nat.reduceEqDiff, Nat.reduceDiv, Nat.reduceMod, Nat.reducePow, Int.reduceAdd, Int.reduceSub, Int.reduceMul, Int.reduceLT, Int.reduceLE, Int.reduceEq, Int.reduceNe, Int.reducePow, Int.reduceToNat, Int.reduceNeg]
  refine call_giv lives_t ?_
  by_cases hb : l.length > 40
  · have hb' : (l.length : Int) > 40 := by omega
    simp -dsimp -implicitDefEqProofs (disch := first | omega | (simp only [List.length_append, List.length_cons, List.length_nil, List.length_take, List.length_drop]; omega)) only [hlen, hb', ↓aPre, aPost, oneW, allOne, retV, retVA, ↓reduceIte, reduceCtorEq, Nat.reduceAdd, Nat.reduceSub, Nat.reduceMul, Nat.reduceLT, Nat.reduceLeDiff, Nat.reduceEqDiff, Nat.reduceDiv, Nat.reduceMod, Nat.reducePow, Int.reduceAdd, Int.reduceSub, Int.reduceMul, Int.reduceLT, Int.reduceLE, Int.reduceEq, Int.reduceNe, Int.reducePow, Int.reduceToNat, Int.reduceNeg]
    refine call_giv lives_t ?_
    simp -dsimp -implicitDefEqProofs (disch := first | omega | (simp only [List.length_append, List.length_cons, List.length_nil, List.length_take, List.length_drop]; omega)) only [↓aPre, aPost, oneW, allOne, retV, retVA, ↓reduceIte, reduceCtorEq, Nat.reduceAdd, Nat.reduceSub, Nat.reduceMul, Nat.reduceLT, Nat.reduceLeDiff, Nat.reduceEqDiff, Nat.reduceDiv, Nat.reduceMod, Nat.reducePow, Int.reduceAdd, Int.reduceSub, Int.reduceMul, Int.reduceLT, Int.reduceLE, Int.reduceEq, Int.reduceNe, Int.reducePow, Int.reduceToNat, Int.reduceNeg]
    exact post_eq rfl
  have hb' : ¬ (l.length : Int) > 40 := by omega
  obtain ⟨n, hn, hok, hend⟩ := stop_ex (pok y1 l (hd y1)) l.length
  have hplan := plan_giv y1 l hO n hn hok hend
  simp -dsimp -implicitDefEqProofs (disch := first | omega | (simp only [List.length_append, List.length_cons, List.length_nil, List.length_take, List.length_drop]; omega)) only [hlen, hb', ↓aPre, aPost, oneW, allOne, retV, retVA, ↓reduceIte, reduceCtorEq, Nat.reduceAdd, Nat.reduceSub, Nat.reduceMul, Nat.reduceLT, Nat.reduceLeDiff, Nat.reduceEqDiff, Nat.reduceDiv, Nat.reduceMod, Nat.reducePow, Int.reduceAdd, Int.reduceSub, Int.reduceMul, Int.reduceLT, Int.reduceLE, Int.reduceEq, Int.reduceNe, Int.reducePow, Int.reduceToNat, Int.reduceNeg]
  by_cases hnl : n = l.length
  rotate_left
  · rw [if_neg hnl] at hplan
    refine call_giv hplan ?_
    simp -dsimp -implicitDefEqProofs (disch := first | omega | (simp only [List.length_append, List.length_cons, List.length_nil, List.length_take, List.length_drop]; omega)) only [hlen, ↓aPre, aPost, oneW, allOne, retV, retVA, ↓reduceIte, reduceCtorEq, Nat.reduceAdd, Nat.reduceSub, Nat.reduceMul, Nat.reduceLT, Nat.reduceLeDiff, Nat.reduceEqDiff, Nat.reduceDiv, Nat.reduceMod, Nat.reducePow, Int.reduceAdd, Int.reduceSub, Int.reduceMul, Int.reduceLT, Int.reduceLE, Int.reduceEq, Int.reduceNe, Int.reducePow, Int.reduceToNat, Int.reduceNeg]
    exact post_eq rfl
  rw [if_pos hnl, hnl] at hplan
  obtain ⟨pp, hpp⟩ : ∃ pp, pp = tabP (pl l (hd y1)) l.length := ⟨_, rfl⟩
  have hpl : pp.length = l.length := by rw [hpp, tabP_len]
  have hpm := pgs_len pp
  rw [← hpp] at hplan
  rw [hpl] at hpm
  have hok2 : ∀ j, j < l.length → pok y1 l (hd y1) j := by rw [← hnl]; exact hok
  have hpau : ∀ j, j ≤ l.length → U (pa l (hd y1) j) := fun j hj => hO.pa hu j hj
  have hg0 : Gap (hd y1) (hd y1) := by cases y1 <;> exact ⟨by decide, by decide, by decide, by decide, by decide⟩
  obtain ⟨b, hbq⟩ : ∃ b, b = hd y1 := ⟨_, rfl⟩
  obtain ⟨Z, hZ⟩ : ∃ Z, Z = pa l b l.length := ⟨_, rfl⟩
  rw [← hbq] at hplan hg0 hok2 hpau hpp
  rw [← hZ] at hplan
  refine call_giv hplan ?_
  rcases Bool.eq_false_or_eq_true y1 with hy | hy
  · obtain rfl : b = 16 := by rw [hbq, hy]; rfl
    simp -dsimp -implicitDefEqProofs (disch := first | omega | (simp only [List.length_append, List.length_cons, List.length_nil, List.length_take, List.length_drop]; omega)) only [hlen, hpm, hy, ↓aPre, aPost, oneW, allOne, retV, retVA, ↓reduceIte, reduceCtorEq, Nat.reduceAdd, Nat.reduceSub, Nat.reduceMul, Nat.reduceLT, Nat.reduceLeDiff, Nat.reduceEqDiff, Nat.reduceDiv, Nat.reduceMod, Nat.reducePow, Int.reduceAdd, Int.reduceSub, Int.reduceMul, Int.reduceLT, Int.reduceLE, Int.reduceEq, Int.reduceNe, Int.reducePow, Int.reduceToNat, Int.reduceNeg]
    refine loop_of (fun s => ∃ (j : Nat) (E : Int), j ≤ l.length ∧ Gap E (pa l 16 j) ∧ s.tm 52 = .d (.c (.int .i64 j)) ∧ s.tm 51 = .d (.c (.int .i64 l.length)) ∧ s.tm 50 = .d (.lst 2 (pp.map pgD)) ∧ s.tm 0 = .d (.lst 2 (l.map pgD)) ∧ s.tm 8 = .d (.c (.int .u64 E)) ∧ s.tm 6 = .d (.c (.int .u64 Z))) (fun s => l.length - (avN (s.tm 52)).toNat) ?_ ?_
    · refine ⟨0, 16, Nat.zero_le _, hg0, ?_⟩
      simp -dsimp -implicitDefEqProofs (disch := first | omega | (simp only [List.length_append, List.length_cons, List.length_nil, List.length_take, List.length_drop]; omega)) only [Int.natCast_zero, ↓aPre, aPost, oneW, allOne, retV, retVA, ↓reduceIte, reduceCtorEq, Nat.reduceAdd, Nat.reduceSub, Nat.reduceMul, Nat.reduceLT, Nat.reduceLeDiff, Nat.reduceEqDiff, Nat.reduceDiv, Nat.reduceMod, Nat.reducePow, Int.reduceAdd, Int.reduceSub, Int.reduceMul, Int.reduceLT, Int.reduceLE, Int.reduceEq, Int.reduceNe, Int.reducePow, Int.reduceToNat, Int.reduceNeg]
    rintro s ⟨j, E, hj, hE, hs⟩
    have hs0 := hs.1
    by_cases hlt : j < l.length
    rotate_left
    · obtain rfl : j = l.length := by omega
      rw [← hZ] at hE
      obtain ⟨e1, e2, e3, e4, e5⟩ := hE
      simp -dsimp -implicitDefEqProofs (disch := first | omega | (simp only [List.length_append, List.length_cons, List.length_nil, List.length_take, List.length_drop]; omega)) only [hs, ibeq_t e4, ↓aPre, aPost, oneW, allOne, retV, retVA, ↓reduceIte, reduceCtorEq, Nat.reduceAdd, Nat.reduceSub, Nat.reduceMul, Nat.reduceLT, Nat.reduceLeDiff, Nat.reduceEqDiff, Nat.reduceDiv, Nat.reduceMod, Nat.reducePow, Int.reduceAdd, Int.reduceSub, Int.reduceMul, Int.reduceLT, Int.reduceLE, Int.reduceEq, Int.reduceNe, Int.reducePow, Int.reduceToNat, Int.reduceNeg]
      exact post_eq rfl
    have eg := pgs_get hlt
    have eg2 := pgs_get (l := pp) (j := j) (by omega)
    have epl : pg pp j = pl l 16 j := by rw [hpp]; exact tabP_get _ hlt
    have ell : (pg pp j).1.length = (pg l j).1.length := by rw [epl, pl, tab_len]
    obtain ⟨p, hp⟩ : ∃ p, p = pg l j := ⟨_, rfl⟩
    obtain ⟨c, hc⟩ : ∃ c, c = pa l 16 j := ⟨_, rfl⟩
    have hcu : U c := by rw [hc]; exact hpau j (by omega)
    obtain ⟨hp1, hp2, hp3⟩ := hO.p j hlt
    have hpl2 := hO.l hlt
    have hpk := hok2 j hlt
    unfold pok at hpk
    rw [← hp] at hp1 hp2 hp3 hpl2 eg ell hpk
    rw [← hc] at hE hpk
    have epp : (pg pp j).1 ++ [(pg pp j).2] = tab (ep p.l c) (p.1.length + 1) := by rw [epl, pl, ← hp, ← hc]; rfl
    have epl1 : ((pg pp j).1 ++ [(pg pp j).2]).length = p.1.length + 1 := by rw [epp, tab_len]
    have tl := tab_len (ep p.l c) (p.1.length + 1)
    by_cases hb1 : p.1.length > 100
    · have hb2 : (p.1.length : Int) > 100 := by omega
      simp -dsimp -implicitDefEqProofs (disch := first | omega | (simp only [List.length_append, List.length_cons, List.length_nil, List.length_take, List.length_drop]; omega)) only [hs, hlen, hpm, eg, eg2, pgD, ell, hb2, ↓aPre, aPost, oneW, allOne, retV, retVA, ↓reduceIte, reduceCtorEq, Nat.reduceAdd, Nat.reduceSub, Nat.reduceMul, Nat.reduceLT, Nat.reduceLeDiff, Nat.reduceEqDiff, Nat.reduceDiv, Nat.reduceMod, Nat.reducePow, Int.reduceAdd, Int.reduceSub, Int.reduceMul, Int.reduceLT, Int.reduceLE, Int.reduceEq, Int.reduceNe, Int.reducePow, Int.reduceToNat, Int.reduceNeg]
      exact post_eq rfl
    have hb2 : ¬ (p.1.length : Int) > 100 := by omega
    have ea : pa l 16 (j + 1) = ep p.l c (p.1.length + 1) := by rw [pa, ← hp, ← hc]
    simp -dsimp -implicitDefEqProofs (disch := first | omega | (simp only [List.length_append, List.length_cons, List.length_nil, List.length_take, List.length_drop]; omega)) only [hs, hlen, hpm, eg, eg2, pgD, ell, hb2, li_append, epp, ↓aPre, aPost, oneW, allOne, retV, retVA, ↓reduceIte, reduceCtorEq, Nat.reduceAdd, Nat.reduceSub, Nat.reduceMul, Nat.reduceLT, Nat.reduceLeDiff, Nat.reduceEqDiff, Nat.reduceDiv, Nat.reduceMod, Nat.reducePow, Int.reduceAdd, Int.reduceSub, Int.reduceMul, Int.reduceLT, Int.reduceLE, Int.reduceEq, Int.reduceNe, Int.reducePow, Int.reduceToNat, Int.reduceNeg]
    refine ⟨⟨?_, ?_⟩, ?_⟩
    all_goals
      refine loop_of (fun s => ∃ (k : Nat) (E : Int), k ≤ p.1.length + 1 ∧ Gap E (ep p.l c k) ∧ s.tm 89 = .d (.c (.int .i64 k)) ∧ s.tm 88 = .d (.c (.int .i64 (p.1.length + 1 : Nat))) ∧ s.tm 87 = .sl 80 1 0 (p.1.length + 1) ∧ s.hp 80 = some (.row 1 (li .u64 (tab (ep p.l c) (p.1.length + 1)))) ∧ s.tm 9 = .d (.c (.int .i64 j)) ∧
        s.tm 52 = .d (.c (.int .i64 j)) ∧ s.tm 51 = .d (.c (.int .i64 l.length)) ∧ s.tm 50 = .d (.lst 2 (pp.map pgD)) ∧ s.tm 0 = .d (.lst 2 (l.map pgD)) ∧ s.tm 8 = .d (.c (.int .u64 E)) ∧ s.tm 6 = .d (.c (.int .u64 Z))) (fun s => p.1.length + 1 - (avN (s.tm 89)).toNat) ?_ ?_
      · refine ⟨0, E, Nat.zero_le _, hE, ?_⟩
        simp -dsimp -implicitDefEqProofs (disch := first | omega | (simp only [List.length_append, List.length_cons, List.length_nil, List.length_take, List.length_drop]; omega)) only [hs, epl1, epp, ep, Int.natCast_zero, ↓aPre, aPost, oneW, allOne, retV, retVA, ↓reduceIte, reduceCtorEq, Nat.reduceAdd, Nat.reduceSub, Nat.reduceMul, Nat.reduceLT, Nat.reduceLeDiff, Nat.reduceEqDiff, Nat.reduceDiv, Nat.reduceMod, Nat.reducePow, Int.reduceAdd, Int.reduceSub, Int.reduceMul, Int.reduceLT, Int.reduceLE, Int.reduceEq, Int.reduceNe, Int.reducePow, Int.reduceToNat, Int.reduceNeg]
      clear hs
      rintro s ⟨k, E, hk, hE, hs⟩
      by_cases hkl : k < p.1.length + 1
      · have hg := hpk k hkl
        have hek : U (ep p.l c k) := ep_u hcu hpl2 k
        have hzu : U (p.l.getD k 0) := hpl2.get (by decide) k
        have hgap := Gap.next hek hzu hg
        have ht : (tab (ep p.l c) (p.1.length + 1)).getD k 0 = ep p.l c k := tab_get _ hkl
        obtain ⟨e1, e2, e3, e4, e5⟩ := hE
        obtain ⟨f1, f2, f3, f4, f5⟩ := hgap
        have n1 : ¬ ep p.l c k < E := by omega
        have n2 : ¬ ep p.l c k > E + 1 := by omega
        have hE1 : E + 1 < 18446744073709551616 := by omega
        obtain ⟨g1, g2⟩ := hek
        by_cases hkp : k < p.1.length
        · rw [Pg.get1 hkp] at f1 f2 f3 f4 f5 hzu
          obtain ⟨z1, z2⟩ := hzu
          simp -dsimp -implicitDefEqProofs (disch := first | omega | (simp only [List.length_append, List.length_cons, List.length_nil, List.length_take, List.length_drop]; omega)) only [hs, ht, tl, hlen, eg, pgD, n1, n2, ibne_f e4, ↓aPre, aPost, oneW, allOne, retV, retVA, ↓reduceIte, reduceCtorEq, Nat.reduceAdd, Nat.reduceSub, Nat.reduceMul, Nat.reduceLT, Nat.reduceLeDiff, Nat.reduceEqDiff, Nat.reduceDiv, Nat.reduceMod, Nat.reducePow, Int.reduceAdd, Int.reduceSub, Int.reduceMul, Int.reduceLT, Int.reduceLE, Int.reduceEq, Int.reduceNe, Int.reducePow, Int.reduceToNat, Int.reduceNeg]
          refine round_of ⟨k + 1, ep p.l c k + p.1.getD k 0, by omega, ⟨by omega, by rw [ep, Pg.get1 hkp]; omega, by rw [ep, Pg.get1 hkp]; omega, by rw [ep, Pg.get1 hkp]; omega, by rw [ep, Pg.get1 hkp]; omega⟩, ?_⟩ ?_
          · simp -dsimp -implicitDefEqProofs (disch := first | omega | (simp only [List.length_append, List.length_cons, List.length_nil, List.length_take, List.length_drop]; omega)) only [hs, ↓aPre, aPost, oneW, allOne, retV, retVA, ↓reduceIte, reduceCtorEq, Nat.reduceAdd, Nat.reduceSub, Nat.reduceMul, Nat.reduceLT, Nat.reduceLeDiff, Nat.reduceEqDiff, Nat.reduceDiv, Nat.reduceMod, Nat.reducePow, Int.reduceAdd, Int.reduceSub, Int.reduceMul, Int.reduceLT, Int.reduceLE, Int.reduceEq, Int.reduceNe, Int.reducePow, Int.reduceToNat, Int.reduceNeg]
          · simp -dsimp -implicitDefEqProofs (disch := first | omega | (simp only [List.length_append, List.length_cons, List.length_nil, List.length_take, List.length_drop]; omega)) only [hs, ↓aPre, aPost, oneW, allOne, retV, retVA, ↓reduceIte, reduceCtorEq, Nat.reduceAdd, Nat.reduceSub, Nat.reduceMul, Nat.reduceLT, Nat.reduceLeDiff, Nat.reduceEqDiff, Nat.reduceDiv, Nat.reduceMod, Nat.reducePow, Int.reduceAdd, Int.reduceSub, Int.reduceMul, Int.reduceLT, Int.reduceLE, Int.reduceEq, Int.reduceNe, Int.reducePow, Int.reduceToNat, Int.reduceNeg]
            omega
        · obtain rfl : k = p.1.length := by omega
          rw [Pg.get2] at f1 f2 f3 f4 f5 hzu
          obtain ⟨z1, z2⟩ := hzu
          simp -dsimp -implicitDefEqProofs (disch := first | omega | (simp only [List.length_append, List.length_cons, List.length_nil, List.length_take, List.length_drop]; omega)) only [hs, ht, tl, hlen, eg, pgD, n1, n2, ibne_f e4, ↓aPre, aPost, oneW, allOne, retV, retVA, ↓reduceIte, reduceCtorEq, Nat.reduceAdd, Nat.reduceSub, Nat.reduceMul, Nat.reduceLT, Nat.reduceLeDiff, Nat.reduceEqDiff, Nat.reduceDiv, Nat.reduceMod, Nat.reducePow, Int.reduceAdd, Int.reduceSub, Int.reduceMul, Int.reduceLT, Int.reduceLE, Int.reduceEq, Int.reduceNe, Int.reducePow, Int.reduceToNat, Int.reduceNeg]
          refine round_of ⟨p.1.length + 1, ep p.l c p.1.length + p.2, by omega, ⟨by omega, by rw [ep, Pg.get2]; omega, by rw [ep, Pg.get2]; omega, by rw [ep, Pg.get2]; omega, by rw [ep, Pg.get2]; omega⟩, ?_⟩ ?_
          · simp -dsimp -implicitDefEqProofs (disch := first | omega | (simp only [List.length_append, List.length_cons, List.length_nil, List.length_take, List.length_drop]; omega)) only [hs, ↓aPre, aPost, oneW, allOne, retV, retVA, ↓reduceIte, reduceCtorEq, Nat.reduceAdd, Nat.reduceSub, Nat.reduceMul, Nat.reduceLT, Nat.reduceLeDiff, Nat.reduceEqDiff, Nat.reduceDiv, Nat.reduceMod, Nat.reducePow, Int.reduceAdd, Int.reduceSub, Int.reduceMul, Int.reduceLT, Int.reduceLE, Int.reduceEq, Int.reduceNe, Int.reducePow, Int.reduceToNat, Int.reduceNeg]
          · simp -dsimp -implicitDefEqProofs (disch := first | omega | (simp only [List.length_append, List.length_cons, List.length_nil, List.length_take, List.length_drop]; omega)) only [hs, ↓aPre, aPost, oneW, allOne, retV, retVA, ↓reduceIte, reduceCtorEq, Nat.reduceAdd, Nat.reduceSub, Nat.reduceMul, Nat.reduceLT, Nat.reduceLeDiff, Nat.reduceEqDiff, Nat.reduceDiv, Nat.reduceMod, Nat.reducePow, Int.reduceAdd, Int.reduceSub, Int.reduceMul, Int.reduceLT, Int.reduceLE, Int.reduceEq, Int.reduceNe, Int.reducePow, Int.reduceToNat, Int.reduceNeg]
            omega
      · obtain rfl : k = p.1.length + 1 := by omega
        rw [← ea] at hE
        simp -dsimp -implicitDefEqProofs (disch := first | omega | (simp only [List.length_append, List.length_cons, List.length_nil, List.length_take, List.length_drop]; omega)) only [hs, ↓aPre, aPost, oneW, allOne, retV, retVA, ↓reduceIte, reduceCtorEq, Nat.reduceAdd, Nat.reduceSub, Nat.reduceMul, Nat.reduceLT, Nat.reduceLeDiff, Nat.reduceEqDiff, Nat.reduceDiv, Nat.reduceMod, Nat.reducePow, Int.reduceAdd, Int.reduceSub, Int.reduceMul, Int.reduceLT, Int.reduceLE, Int.reduceEq, Int.reduceNe, Int.reducePow, Int.reduceToNat, Int.reduceNeg]
        refine round_of ⟨j + 1, E, by omega, hE, ?_⟩ ?_
        · simp -dsimp -implicitDefEqProofs (disch := first | omega | (simp only [List.length_append, List.length_cons, List.length_nil, List.length_take, List.length_drop]; omega)) only [hs, ↓aPre, aPost, oneW, allOne, retV, retVA, ↓reduceIte, reduceCtorEq, Nat.reduceAdd, Nat.reduceSub, Nat.reduceMul, Nat.reduceLT, Nat.reduceLeDiff, Nat.reduceEqDiff, Nat.reduceDiv, Nat.reduceMod, Nat.reducePow, Int.reduceAdd, Int.reduceSub, Int.reduceMul, Int.reduceLT, Int.reduceLE, Int.reduceEq, Int.reduceNe, Int.reducePow, Int.reduceToNat, Int.reduceNeg]
        · simp -dsimp -implicitDefEqProofs (disch := first | omega | (simp only [List.length_append, List.length_cons, List.length_nil, List.length_take, List.length_drop]; omega)) only [hs, hs0, ↓aPre, aPost, oneW, allOne, retV, retVA, ↓reduceIte, reduceCtorEq, Nat.reduceAdd, Nat.reduceSub, Nat.reduceMul, Nat.reduceLT, Nat.reduceLeDiff, Nat.reduceEqDiff, Nat.reduceDiv, Nat.reduceMod, Nat.reducePow, Int.reduceAdd, Int.reduceSub, Int.reduceMul, Int.reduceLT, Int.reduceLE, Int.reduceEq, Int.reduceNe, Int.reducePow, Int.reduceToNat, Int.reduceNeg]
          omega
  · obtain rfl : b = 8 := by rw [hbq, hy]; rfl
    simp -dsimp -implicitDefEqProofs (disch := first | omega | (simp only [List.length_append, List.length_cons, List.length_nil, List.length_take, List.length_drop]; omega)) only [hlen, hpm, hy, ↓aPre, aPost, oneW, allOne, retV, retVA, ↓reduceIte, reduceCtorEq, Nat.reduceAdd, Nat.reduceSub, Nat.reduceMul, Nat.reduceLT, Nat.reduceLeDiff, Nat.reduceEqDiff, Nat.reduceDiv, Nat.reduceMod, Nat.reducePow, Int.reduceAdd, Int.reduceSub, Int.reduceMul, Int.reduceLT, Int.reduceLE, Int.reduceEq, Int.reduceNe, Int.reducePow, Int.reduceToNat, Int.reduceNeg]
    refine loop_of (fun s => ∃ (j : Nat) (E : Int), j ≤ l.length ∧ Gap E (pa l 8 j) ∧ s.tm 52 = .d (.c (.int .i64 j)) ∧ s.tm 51 = .d (.c (.int .i64 l.length)) ∧ s.tm 50 = .d (.lst 2 (pp.map pgD)) ∧ s.tm 0 = .d (.lst 2 (l.map pgD)) ∧ s.tm 8 = .d (.c (.int .u64 E)) ∧ s.tm 6 = .d (.c (.int .u64 Z))) (fun s => l.length - (avN (s.tm 52)).toNat) ?_ ?_
    · refine ⟨0, 8, Nat.zero_le _, hg0, ?_⟩
      simp -dsimp -implicitDefEqProofs (disch := first | omega | (simp only [List.length_append, List.length_cons, List.length_nil, List.length_take, List.length_drop]; omega)) only [Int.natCast_zero, ↓aPre, aPost, oneW, allOne, retV, retVA, ↓reduceIte, reduceCtorEq, Nat.reduceAdd, Nat.reduceSub, Nat.reduceMul, Nat.reduceLT, Nat.reduceLeDiff, Nat.reduceEqDiff, Nat.reduceDiv, Nat.reduceMod, Nat.reducePow, Int.reduceAdd, Int.reduceSub, Int.reduceMul, Int.reduceLT, Int.reduceLE, Int.reduceEq, Int.reduceNe, Int.reducePow, Int.reduceToNat, Int.reduceNeg]
    rintro s ⟨j, E, hj, hE, hs⟩
    have hs0 := hs.1
    by_cases hlt : j < l.length
    rotate_left
    · obtain rfl : j = l.length := by omega
      rw [← hZ] at hE
      obtain ⟨e1, e2, e3, e4, e5⟩ := hE
      simp -dsimp -implicitDefEqProofs (disch := first | omega | (simp only [List.length_append, List.length_cons, List.length_nil, List.length_take, List.length_drop]; omega)) only [hs, ibeq_t e4, ↓aPre, aPost, oneW, allOne, retV, retVA, ↓reduceIte, reduceCtorEq, Nat.reduceAdd, Nat.reduceSub, Nat.reduceMul, Nat.reduceLT, Nat.reduceLeDiff, Nat.reduceEqDiff, Nat.reduceDiv, Nat.reduceMod, Nat.reducePow, Int.reduceAdd, Int.reduceSub, Int.reduceMul, Int.reduceLT, Int.reduceLE, Int.reduceEq, Int.reduceNe, Int.reducePow, Int.reduceToNat, Int.reduceNeg]
      exact post_eq rfl
    have eg := pgs_get hlt
    have eg2 := pgs_get (l := pp) (j := j) (by omega)
    have epl : pg pp j = pl l 8 j := by rw [hpp]; exact tabP_get _ hlt
    have ell : (pg pp j).1.length = (pg l j).1.length := by rw [epl, pl, tab_len]
    obtain ⟨p, hp⟩ : ∃ p, p = pg l j := ⟨_, rfl⟩
    obtain ⟨c, hc⟩ : ∃ c, c = pa l 8 j := ⟨_, rfl⟩
    have hcu : U c := by rw [hc]; exact hpau j (by omega)
    obtain ⟨hp1, hp2, hp3⟩ := hO.p j hlt
    have hpl2 := hO.l hlt
    have hpk := hok2 j hlt
    unfold pok at hpk
    rw [← hp] at hp1 hp2 hp3 hpl2 eg ell hpk
    rw [← hc] at hE hpk
    have epp : (pg pp j).1 ++ [(pg pp j).2] = tab (ep p.l c) (p.1.length + 1) := by rw [epl, pl, ← hp, ← hc]; rfl
    have epl1 : ((pg pp j).1 ++ [(pg pp j).2]).length = p.1.length + 1 := by rw [epp, tab_len]
    have tl := tab_len (ep p.l c) (p.1.length + 1)
    by_cases hb1 : p.1.length > 100
    · have hb2 : (p.1.length : Int) > 100 := by omega
      simp -dsimp -implicitDefEqProofs (disch := first | omega | (simp only [List.length_append, List.length_cons, List.length_nil, List.length_take, List.length_drop]; omega)) only [hs, hlen, hpm, eg, eg2, pgD, ell, hb2, ↓aPre, aPost, oneW, allOne, retV, retVA, ↓reduceIte, reduceCtorEq, Nat.reduceAdd, Nat.reduceSub, Nat.reduceMul, Nat.reduceLT, Nat.reduceLeDiff, Nat.reduceEqDiff, Nat.reduceDiv, Nat.reduceMod, Nat.reducePow, Int.reduceAdd, Int.reduceSub, Int.reduceMul, Int.reduceLT, Int.reduceLE, Int.reduceEq, Int.reduceNe, Int.reducePow, Int.reduceToNat, Int.reduceNeg]
      exact post_eq rfl
    have hb2 : ¬ (p.1.length : Int) > 100 := by omega
    have ea : pa l 8 (j + 1) = ep p.l c (p.1.length + 1) := by rw [pa, ← hp, ← hc]
    simp -dsimp -implicitDefEqProofs (disch := first | omega | (simp only [List.length_append, List.length_cons, List.length_nil, List.length_take, List.length_drop]; omega)) only [hs, hlen, hpm, eg, eg2, pgD, ell, hb2, li_append, epp, ↓aPre, aPost, oneW, allOne, retV, retVA, ↓reduceIte, reduceCtorEq, Nat.reduceAdd, Nat.reduceSub, Nat.reduceMul, Nat.reduceLT, Nat.reduceLeDiff, Nat.reduceEqDiff, Nat.reduceDiv, Nat.reduceMod, Nat.reducePow, Int.reduceAdd, Int.reduceSub, Int.reduceMul, Int.reduceLT, Int.reduceLE, Int.reduceEq, Int.reduceNe, Int.reducePow, Int.reduceToNat, Int.reduceNeg]
    refine ⟨⟨?_, ?_⟩, ?_⟩
    all_goals
      refine loop_of (fun s => ∃ (k : Nat) (E : Int), k ≤ p.1.length + 1 ∧ Gap E (ep p.l c k) ∧ s.tm 89 = .d (.c (.int .i64 k)) ∧ s.tm 88 = .d (.c (.int .i64 (p.1.length + 1 : Nat))) ∧ s.tm 87 = .sl 80 1 0 (p.1.length + 1) ∧ s.hp 80 = some (.row 1 (li .u64 (tab (ep p.l c) (p.1.length + 1)))) ∧ s.tm 9 = .d (.c (.int .i64 j)) ∧
        s.tm 52 = .d (.c (.int .i64 j)) ∧ s.tm 51 = .d (.c (.int .i64 l.length)) ∧ s.tm 50 = .d (.lst 2 (pp.map pgD)) ∧ s.tm 0 = .d (.lst 2 (l.map pgD)) ∧ s.tm 8 = .d (.c (.int .u64 E)) ∧ s.tm 6 = .d (.c (.int .u64 Z))) (fun s => p.1.length + 1 - (avN (s.tm 89)).toNat) ?_ ?_
      · refine ⟨0, E, Nat.zero_le _, hE, ?_⟩
        simp -dsimp -implicitDefEqProofs (disch := first | omega | (simp only [List.length_append, List.length_cons, List.length_nil, List.length_take, List.length_drop]; omega)) only [hs, epl1, epp, ep, Int.natCast_zero, ↓aPre, aPost, oneW, allOne, retV, retVA, ↓reduceIte, reduceCtorEq, Nat.reduceAdd, Nat.reduceSub, Nat.reduceMul, Nat.reduceLT, Nat.reduceLeDiff, Nat.reduceEqDiff, Nat.reduceDiv, Nat.reduceMod, Nat.reducePow, Int.reduceAdd, Int.reduceSub, Int.reduceMul, Int.reduceLT, Int.reduceLE, Int.reduceEq, Int.reduceNe, Int.reducePow, Int.reduceToNat, Int.reduceNeg]
      clear hs
      rintro s ⟨k, E, hk, hE, hs⟩
      by_cases hkl : k < p.1.length + 1
      · have hg := hpk k hkl
        have hek : U (ep p.l c k) := ep_u hcu hpl2 k
        have hzu : U (p.l.getD k 0) := hpl2.get (by decide) k
        have hgap := Gap.next hek hzu hg
        have ht : (tab (ep p.l c) (p.1.length + 1)).getD k 0 = ep p.l c k := tab_get _ hkl
        obtain ⟨e1, e2, e3, e4, e5⟩ := hE
        obtain ⟨f1, f2, f3, f4, f5⟩ := hgap
        have n1 : ¬ ep p.l c k < E := by omega
        have n2 : ¬ ep p.l c k > E + 1 := by omega
        have hE1 : E + 1 < 18446744073709551616 := by omega
        obtain ⟨g1, g2⟩ := hek
        by_cases hkp : k < p.1.length
        · rw [Pg.get1 hkp] at f1 f2 f3 f4 f5 hzu
          obtain ⟨z1, z2⟩ := hzu
          simp -dsimp -implicitDefEqProofs (disch := first | omega | (simp only [List.length_append, List.length_cons, List.length_nil, List.length_take, List.length_drop]; omega)) only [hs, ht, tl, hlen, eg, pgD, n1, n2, ibne_f e4, ↓aPre, aPost, oneW, allOne, retV, retVA, ↓reduceIte, reduceCtorEq, Nat.reduceAdd, Nat.reduceSub, Nat.reduceMul, Nat.reduceLT, Nat.reduceLeDiff, Nat.reduceEqDiff, Nat.reduceDiv, Nat.reduceMod, Nat.reducePow, Int.reduceAdd, Int.reduceSub, Int.reduceMul, Int.reduceLT, Int.reduceLE, Int.reduceEq, Int.reduceNe, Int.reducePow, Int.reduceToNat, Int.reduceNeg]
          refine round_of ⟨k + 1, ep p.l c k + p.1.getD k 0, by omega, ⟨by omega, by rw [ep, Pg.get1 hkp]; omega, by rw [ep, Pg.get1 hkp]; omega, by rw [ep, Pg.get1 hkp]; omega, by rw [ep, Pg.get1 hkp]; omega⟩, ?_⟩ ?_
          · simp -dsimp -implicitDefEqProofs (disch := first | omega | (simp only [List.length_append, List.length_cons, List.length_nil, List.length_take, List.length_drop]; omega)) only [hs, ↓aPre, aPost, oneW, allOne, retV, retVA, ↓reduceIte, reduceCtorEq, Nat.reduceAdd, Nat.reduceSub, Nat.reduceMul, Nat.reduceLT, Nat.reduceLeDiff, Nat.reduceEqDiff, Nat.reduceDiv, Nat.reduceMod, Nat.reducePow, Int.reduceAdd, Int.reduceSub, Int.reduceMul, Int.reduceLT, Int.reduceLE, Int.reduceEq, Int.reduceNe, Int.reducePow, Int.reduceToNat, Int.reduceNeg]
          · simp -dsimp -implicitDefEqProofs (disch := first | omega | (simp only [List.length_append, List.length_cons, List.length_nil, List.length_take, List.length_drop]; omega)) only [hs, ↓aPre, aPost, oneW, allOne, retV, retVA, ↓reduceIte, reduceCtorEq, Nat.reduceAdd, Nat.reduceSub, Nat.reduceMul, Nat.reduceLT, Nat.reduceLeDiff, Nat.reduceEqDiff, Nat.reduceDiv, Nat.reduceMod, Nat.reducePow, Int.reduceAdd, Int.reduceSub, Int.reduceMul, Int.reduceLT, Int.reduceLE, Int.reduceEq, Int.reduceNe, Int.reducePow, Int.reduceToNat, Int.reduceNeg]
            omega
        · obtain rfl : k = p.1.length := by omega
          rw [Pg.get2] at f1 f2 f3 f4 f5 hzu
          obtain ⟨z1, z2⟩ := hzu
          simp -dsimp -implicitDefEqProofs (disch := first | omega | (simp only [List.length_append, List.length_cons, List.length_nil, List.length_take, List.length_drop]; omega)) only [hs, ht, tl, hlen, eg, pgD, n1, n2, ibne_f e4, ↓aPre, aPost, oneW, allOne, retV, retVA, ↓reduceIte, reduceCtorEq, Nat.reduceAdd, Nat.reduceSub, Nat.reduceMul, Nat.reduceLT, Nat.reduceLeDiff, Nat.reduceEqDiff, Nat.reduceDiv, Nat.reduceMod, Nat.reducePow, Int.reduceAdd, Int.reduceSub, Int.reduceMul, Int.reduceLT, Int.reduceLE, Int.reduceEq, Int.reduceNe, Int.reducePow, Int.reduceToNat, Int.reduceNeg]
          refine round_of ⟨p.1.length + 1, ep p.l c p.1.length + p.2, by omega, ⟨by omega, by rw [ep, Pg.get2]; omega, by rw [ep, Pg.get2]; omega, by rw [ep, Pg.get2]; omega, by rw [ep, Pg.get2]; omega⟩, ?_⟩ ?_
          · simp -dsimp -implicitDefEqProofs (disch := first | omega | (simp only [List.length_append, List.length_cons, List.length_nil, List.length_take, List.length_drop]; omega)) only [hs, ↓aPre, aPost, oneW, allOne, retV, retVA, ↓reduceIte, reduceCtorEq, Nat.reduceAdd, Nat.reduceSub, Nat.reduceMul, Nat.reduceLT, Nat.reduceLeDiff, Nat.reduceEqDiff, Nat.reduceDiv, Nat.reduceMod, Nat.reducePow, Int.reduceAdd, Int.reduceSub, Int.reduceMul, Int.reduceLT, Int.reduceLE, Int.reduceEq, Int.reduceNe, Int.reducePow, Int.reduceToNat, Int.reduceNeg]
          · simp -dsimp -implicitDefEqProofs (disch := first | omega | (simp only [List.length_append, List.length_cons, List.length_nil, List.length_take, List.length_drop]; omega)) only [hs, ↓aPre, aPost, oneW, allOne, retV, retVA, ↓reduceIte, reduceCtorEq, Nat.reduceAdd, Nat.reduceSub, Nat.reduceMul, Nat.reduceLT, Nat.reduceLeDiff, Nat.reduceEqDiff, Nat.reduceDiv, Nat.reduceMod, Nat.reducePow, Int.reduceAdd, Int.reduceSub, Int.reduceMul, Int.reduceLT, Int.reduceLE, Int.reduceEq, Int.reduceNe, Int.reducePow, Int.reduceToNat, Int.reduceNeg]
            omega
      · obtain rfl : k = p.1.length + 1 := by omega
        rw [← ea] at hE
        simp -dsimp -implicitDefEqProofs (disch := first | omega | (simp only [List.length_append, List.length_cons, List.length_nil, List.length_take, List.length_drop]; omega)) only [hs, ↓aPre, aPost, oneW, allOne, retV, retVA, ↓reduceIte, reduceCtorEq, Nat.reduceAdd, Nat.reduceSub, Nat.reduceMul, Nat.reduceLT, Nat.reduceLeDiff, Nat.reduceEqDiff, Nat.reduceDiv, Nat.reduceMod, Nat.reducePow, Int.reduceAdd, Int.reduceSub, Int.reduceMul, Int.reduceLT, Int.reduceLE, Int.reduceEq, Int.reduceNe, Int.reducePow, Int.reduceToNat, Int.reduceNeg]
        refine round_of ⟨j + 1, E, by omega, hE, ?_⟩ ?_
        · simp -dsimp -implicitDefEqProofs (disch := first | omega | (simp only [List.length_append, List.length_cons, List.length_nil, List.length_take, List.length_drop]; omega)) only [hs, ↓aPre, aPost, oneW, allOne, retV, retVA, ↓reduceIte, reduceCtorEq, Nat.reduceAdd, Nat.reduceSub, Nat.reduceMul, Nat.reduceLT, Nat.reduceLeDiff, Nat.reduceEqDiff, Nat.reduceDiv, Nat.reduceMod, Nat.reducePow, Int.reduceAdd, Int.reduceSub, Int.reduceMul, Int.reduceLT, Int.reduceLE, Int.reduceEq, Int.reduceNe, Int.reducePow, Int.reduceToNat, Int.reduceNeg]
        · simp -dsimp -implicitDefEqProofs (disch := first | omega | (simp only [List.length_append, List.length_cons, List.length_nil, List.length_take, List.length_drop]; omega)) only [hs, hs0, ↓aPre, aPost, oneW, allOne, retV, retVA, ↓reduceIte, reduceCtorEq, Nat.reduceAdd, Nat.reduceSub, Nat.reduceMul, Nat.reduceLT, Nat.reduceLeDiff, Nat.reduceEqDiff, Nat.reduceDiv, Nat.reduceMod, Nat.reducePow, Int.reduceAdd, Int.reduceSub, Int.reduceMul, Int.reduceLT, Int.reduceLE, Int.reduceEq, Int.reduceNe, Int.reducePow, Int.reduceToNat, Int.reduceNeg]
          omega
end Go.Proofs.Ytmgnjonpoeoeaaa
