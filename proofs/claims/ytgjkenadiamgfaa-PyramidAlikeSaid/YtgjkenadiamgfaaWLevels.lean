/- All levels of a grid; the grids that are tried. No condition but what each says. -/
import Derived.Test.YtgjkenadiamgfaaWHalve
set_option linter.unusedSimpArgs false
set_option linter.unusedVariables false
set_option maxRecDepth 8000
set_option maxHeartbeats 4000000
namespace Go.Proofs.Ytgjkenadiamgfaa
open Go.Eng Go.RowKit
def lw (W : Nat) : Nat → Nat
  | 0 => W
  | n + 1 => (lw W n + 1) / 2
def ll (W H : Nat) (l : List Int) : Nat → List Int
  | 0 => l
  | n + 1 => hvL (lw W n) (lw H n) (ll W H l n)
def levD (k : IntKind) (W H : Nat) (l : List Int) (n : Nat) : D := gD k (lw W n) (lw H n) (ll W H l n)
def tabD (f : Nat → D) : Nat → List D
  | 0 => []
  | n + 1 => tabD f n ++ [f n]
theorem tabD_len (f : Nat → D) : ∀ n, (tabD f n).length = n
  | 0 => rfl
  | n + 1 => by rw [tabD, List.length_append, tabD_len f n]; rfl
theorem tabD_get (f : Nat → D) : ∀ {n i : Nat}, i < n → (tabD f n).getD i default = f i
  | n + 1, i, h => by
    rw [tabD]
    simp only [List.getD, List.getElem?_append, tabD_len]
    by_cases c : i < n
    · rw [if_pos c]
      have := tabD_get f c
      simpa only [List.getD] using this
    · obtain rfl : i = n := by omega
      rw [if_neg c, Nat.sub_self]
      rfl
theorem Rt.lev {m : Int} {W H : Nat} {l : List Int} (r : Rt m W H l) (hm : 0 < m) : ∀ n, Rt m (lw W n) (lw H n) (ll W H l n)
  | 0 => r
  | n + 1 => (Rt.lev r hm n).half hm
theorem lw_pos {W : Nat} (h : 1 ≤ W) : ∀ n, 1 ≤ lw W n
  | 0 => h
  | n + 1 => by have := lw_pos h n; rw [lw]; omega
theorem lw_small {W : Nat} (h : W ≤ 64) : ∀ n, 6 ≤ n → lw W n ≤ 1
  | 0, h6 => by omega
  | n + 1, h6 => by
    by_cases c : n = 5
    · subst c
      simp only [lw]
      omega
    · have := lw_small h n (by omega)
      rw [lw]; omega
def bigP (W H : Nat) (i : Nat) : Prop := 1 < lw W i ∨ 1 < lw H i
theorem stop_ex (P : Nat → Prop) : ∀ k, ∃ n, n ≤ k ∧ (∀ i, i < n → P i) ∧ (n = k ∨ ¬ P n)
  | 0 => ⟨0, Nat.le_refl _, fun i h => absurd h (Nat.not_lt_zero _), .inl rfl⟩
  | k + 1 => by
    obtain ⟨n, h1, h2, h3⟩ := stop_ex P k
    by_cases c : P n
    · obtain rfl : n = k := h3.resolve_right (fun h => h c)
      refine ⟨n + 1, Nat.le_refl _, fun i hi => ?_, .inl rfl⟩
      by_cases e : i = n
      · rw [e]; exact c
      · exact h2 i (by omega)
    · exact ⟨n, by omega, h2, .inr c⟩
theorem stop_small {W H n : Nat} (hW : W ≤ 64) (hH : H ≤ 64) (h : ∀ i, i < n → bigP W H i) : n ≤ 6 := by
  by_cases c : 6 < n
  · have h6 := h 6 c
    have := lw_small hW 6 (Nat.le_refl _)
    have := lw_small hH 6 (Nat.le_refl _)
    unfold bigP at h6
    omega
  · omega
/-- all cells lie between lo and hi -/
def Bd (lo hi : Int) (l : List Int) : Prop := ∀ j, j < l.length → lo ≤ l.getD j 0 ∧ l.getD j 0 ≤ hi
theorem mnP_ge {lo hi : Int} {l : List Int} (h : Bd lo hi l) (h0 : 0 < l.length) : ∀ k, k ≤ l.length → lo ≤ mnP l k ∧ mxP l k ≤ hi
  | 0, _ => h 0 h0
  | k + 1, hk => by
    have h1 := mnP_ge h h0 k (by omega)
    have h2 := h k (by omega)
    rw [mnP, mxP]
    constructor
    · split <;> omega
    · split <;> omega
theorem mnP_le {l : List Int} : ∀ k j, j < k → mnP l k ≤ l.getD j 0 ∧ l.getD j 0 ≤ mxP l k
  | k + 1, j, hj => by
    rw [mnP, mxP]
    by_cases c : j = k
    · subst c
      constructor
      · split <;> omega
      · split <;> omega
    · have h1 := mnP_le (l := l) k j (by omega)
      constructor
      · split <;> omega
      · split <;> omega
theorem bd_self (l : List Int) : Bd (mnP l l.length) (mxP l l.length) l := fun j hj => mnP_le l.length j hj
theorem Bd.half {lo hi : Int} {W H : Nat} {l : List Int} (h : Bd lo hi l) (hW : 1 ≤ W) (hH : 1 ≤ H) (hl : l.length = W * H) : Bd lo hi (hvL W H l) := fun j hj => by
  have hc : ∀ y x, lo ≤ cl W H l y x ∧ cl W H l y x ≤ hi := fun y x => by
    have hpl := place_lt (show min x (W - 1) < W by omega) (show min y (H - 1) < H by omega)
    exact h _ (by rw [hl, Nat.mul_comm W H]; exact hpl)
  rw [hvL, grL_len] at hj
  rw [hvL, grL, tab_get _ hj, grF, hvG]
  have := hc (2 * (j / ((W + 1) / 2))) (2 * (j % ((W + 1) / 2)))
  have := hc (2 * (j / ((W + 1) / 2))) (2 * (j % ((W + 1) / 2)) + 1)
  have := hc (2 * (j / ((W + 1) / 2)) + 1) (2 * (j % ((W + 1) / 2)))
  have := hc (2 * (j / ((W + 1) / 2)) + 1) (2 * (j % ((W + 1) / 2)) + 1)
  omega
theorem Bd.lev {m lo hi : Int} {W H : Nat} {l : List Int} (h : Bd lo hi l) (r : Rt m W H l) (hm : 0 < m) (hW : 1 ≤ W) (hH : 1 ≤ H) : ∀ n, Bd lo hi (ll W H l n)
  | 0 => h
  | n + 1 => (Bd.lev h r hm hW hH n).half (lw_pos hW n) (lw_pos hH n) (r.lev hm n).ln
def cy (l : List Int) (n : Nat) : List Int := tab (fun i => l.getD (i % l.length) 0) n
theorem cy_rt {m : Int} {l : List Int} (h : In m l) (hm : 0 < m) {W H : Nat} (hW : W ≤ 40) (hH : H ≤ 40) : Rt m W H (cy l (W * H)) :=
  ⟨by omega, by omega, Nat.le_trans (Nat.mul_le_mul hW hH) (by decide), tab_len .., In.tab fun i _ => h.get hm _⟩
section
variable {P : Program} {Q : Exit → St → Prop} {s : St}
theorem loop_nilBB {x : ACode} {b : Seal (P, x, Q, s)} (m i n es : Nat) (cs : List AV) (m' i' n' es' : Nat) (cs' : List AV) (I : St → Prop) (μ : St → Nat) (hm : s.hp m = some (.box cs)) (hi : cs[i]? = some (.d (.c (.slice none 0 0)))) (hne : m ≠ n) (he : 0 < es)
    (hm' : ((s.renew n (.row es [])).turn m (.box ((AV.killL (some n) cs).set i (.sl n es 0 0)))).hp m' = some (.box cs')) (hi' : cs'[i']? = some (.d (.c (.slice none 0 0)))) (hne' : m' ≠ n') (he' : 0 < es')
    (h0 : I ((((s.renew n (.row es [])).turn m (.box ((AV.killL (some n) cs).set i (.sl n es 0 0)))).renew n' (.row es' [])).turn m' (.box ((AV.killL (some n') cs').set i' (.sl n' es' 0 0))))) (h : ∀ s, I s → awp P x (thenQ (roundW I μ s) Q) s) (hn : n < 2000000 := by decide) (hn' : n' < 2000000 := by decide) : loopX P x Q s b :=
  loop_ad [(some m, i, n, es), (some m', i', n', es')] I μ ⟨hne, he, hn, cs, hm, hi, hne', he', hn', cs', hm', hi', h0⟩ h
end
theorem levels_e_u8 {m : Int} {W H : Nat} {l : List Int} (r : Rt m W H l) (most : Int) (h0 : W = 0 ∨ H = 0 ∨ most < 1) : Giv Try.prog 19 [gD .u8 W H l, .c (.int .i64 most)] (retV [.lst 3 [], .c (.int .i64 1)]) := by
  refine Giv.of mixed c19 (Nat.le_of_ble_eq_true rfl) ?_
  have hr := right_u8 r
  by_cases hw : W = 0
  · subst hw
    simp -dsimp -implicitDefEqProofs (disch := first | omega | (simp only [List.length_append, List.length_cons, List.length_nil, List.length_take, List.length_drop]; omega)) only [a19, gD, ↓aPre, aPost, oneW, allOne, retV, retVA, ↓reduceIte, reduceCtorEq, Nat.reduceAdd, Nat.reduceSub, Nat.reduceMul, Nat.reduceLT, Nat.reduceLeDiff, Nat.reduceEqDiff, Nat.reduceDiv, Nat.reduceMod, Nat.reducePow, Int.reduceAdd, Int.reduceSub, Int.reduceMul, Int.reduceLT, Int.reduceLE, Int.reduceEq, Int.reduceNe, Int.reducePow, Int.reduceToNat, Int.reduceNeg]
    refine call_giv hr ?_
    simp -dsimp -implicitDefEqProofs (disch := first | omega | (simp only [List.length_append, List.length_cons, List.length_nil, List.length_take, List.length_drop]; omega)) only [gD, Int.natCast_zero, ↓aPre, aPost, oneW, allOne, retV, retVA, ↓reduceIte, reduceCtorEq, Nat.reduceAdd, Nat.reduceSub, Nat.reduceMul, Nat.reduceLT, Nat.reduceLeDiff, Nat.reduceEqDiff, Nat.reduceDiv, Nat.reduceMod, Nat.reducePow, Int.reduceAdd, Int.reduceSub, Int.reduceMul, Int.reduceLT, Int.reduceLE, Int.reduceEq, Int.reduceNe, Int.reducePow, Int.reduceToNat, Int.reduceNeg]
    exact post_le (by repeat (first | exact leD.nil | exact leE.refl _ | exact leE.nil _ | refine leD.cons ?_ ?_ | refine leE.agg ?_))
  have hw1 : ¬ (W : Int) = 0 := by omega
  by_cases hh : H = 0
  · subst hh
    simp -dsimp -implicitDefEqProofs (disch := first | omega | (simp only [List.length_append, List.length_cons, List.length_nil, List.length_take, List.length_drop]; omega)) only [a19, gD, ↓aPre, aPost, oneW, allOne, retV, retVA, ↓reduceIte, reduceCtorEq, Nat.reduceAdd, Nat.reduceSub, Nat.reduceMul, Nat.reduceLT, Nat.reduceLeDiff, Nat.reduceEqDiff, Nat.reduceDiv, Nat.reduceMod, Nat.reducePow, Int.reduceAdd, Int.reduceSub, Int.reduceMul, Int.reduceLT, Int.reduceLE, Int.reduceEq, Int.reduceNe, Int.reducePow, Int.reduceToNat, Int.reduceNeg]
    refine call_giv hr ?_
    simp -dsimp -implicitDefEqProofs (disch := first | omega | (simp only [List.length_append, List.length_cons, List.length_nil, List.length_take, List.length_drop]; omega)) only [gD, ibeq_f hw1, hw1, Int.natCast_zero, ↓aPre, aPost, oneW, allOne, retV, retVA, ↓reduceIte, reduceCtorEq, Nat.reduceAdd, Nat.reduceSub, Nat.reduceMul, Nat.reduceLT, Nat.reduceLeDiff, Nat.reduceEqDiff, Nat.reduceDiv, Nat.reduceMod, Nat.reducePow, Int.reduceAdd, Int.reduceSub, Int.reduceMul, Int.reduceLT, Int.reduceLE, Int.reduceEq, Int.reduceNe, Int.reducePow, Int.reduceToNat, Int.reduceNeg]
    exact post_le (by repeat (first | exact leD.nil | exact leE.refl _ | exact leE.nil _ | refine leD.cons ?_ ?_ | refine leE.agg ?_))
  have hh1 : ¬ (H : Int) = 0 := by omega
  have hm : most < 1 := by omega
  simp -dsimp -implicitDefEqProofs (disch := first | omega | (simp only [List.length_append, List.length_cons, List.length_nil, List.length_take, List.length_drop]; omega)) only [a19, gD, ↓aPre, aPost, oneW, allOne, retV, retVA, ↓reduceIte, reduceCtorEq, Nat.reduceAdd, Nat.reduceSub, Nat.reduceMul, Nat.reduceLT, Nat.reduceLeDiff, Nat.reduceEqDiff, Nat.reduceDiv, Nat.reduceMod, Nat.reducePow, Int.reduceAdd, Int.reduceSub, Int.reduceMul, Int.reduceLT, Int.reduceLE, Int.reduceEq, Int.reduceNe, Int.reducePow, Int.reduceToNat, Int.reduceNeg]
  refine call_giv hr ?_
  simp -dsimp -implicitDefEqProofs (disch := first | omega | (simp only [List.length_append, List.length_cons, List.length_nil, List.length_take, List.length_drop]; omega)) only [gD, ibeq_f hw1, hw1, ibeq_f hh1, hh1, ↓aPre, aPost, oneW, allOne, retV, retVA, ↓reduceIte, reduceCtorEq, Nat.reduceAdd, Nat.reduceSub, Nat.reduceMul, Nat.reduceLT, Nat.reduceLeDiff, Nat.reduceEqDiff, Nat.reduceDiv, Nat.reduceMod, Nat.reducePow, Int.reduceAdd, Int.reduceSub, Int.reduceMul, Int.reduceLT, Int.reduceLE, Int.reduceEq, Int.reduceNe, Int.reducePow, Int.reduceToNat, Int.reduceNeg]
  exact post_le (by repeat (first | exact leD.nil | exact leE.refl _ | exact leE.nil _ | refine leD.cons ?_ ?_ | refine leE.agg ?_))
theorem levels_u8 {W H : Nat} {l : List Int} (r : Rt 256 W H l) (hW : 1 ≤ W) (hH : 1 ≤ H) (most : Int) (n : Nat) (hn6 : n ≤ 6) (hnm : (n : Int) + 1 ≤ most) (hbig : ∀ i, i < n → bigP W H i) (hend : (n : Int) + 1 = most ∨ ¬ bigP W H n) :
    Giv Try.prog 19 [gD .u8 W H l, .c (.int .i64 most)] (retV [.lst 3 (tabD (levD .u8 W H l) (n + 1)), .c (.int .i64 0)]) := by
  refine Giv.of mixed c19 (Nat.le_of_ble_eq_true rfl) ?_
  have hr := right_u8 r
  have hw1 : ¬ (W : Int) = 0 := by omega
  have hh1 : ¬ (H : Int) = 0 := by omega
  simp -dsimp -implicitDefEqProofs (disch := first | omega | (simp only [List.length_append, List.length_cons, List.length_nil, List.length_take, List.length_drop]; omega)) only [a19, gD, ↓aPre, aPost, oneW, allOne, retV, retVA, ↓reduceIte, reduceCtorEq, Nat.reduceAdd, Nat.reduceSub, Nat.reduceMul, Nat.reduceLT, Nat.reduceLeDiff, Nat.reduceEqDiff, Nat.reduceDiv, Nat.reduceMod, Nat.reducePow, Int.reduceAdd, Int.reduceSub, Int.reduceMul, Int.reduceLT, Int.reduceLE, Int.reduceEq, Int.reduceNe, Int.reducePow, Int.reduceToNat, Int.reduceNeg]
  refine call_giv hr ?_
  simp -dsimp -implicitDefEqProofs (disch := first | omega | (simp only [List.length_append, List.length_cons, List.length_nil, List.length_take, List.length_drop]; omega)) only [gD, ibeq_f hw1, hw1, ibeq_f hh1, hh1, ↓aPre, aPost, oneW, allOne, retV, retVA, ↓reduceIte, reduceCtorEq, Nat.reduceAdd, Nat.reduceSub, Nat.reduceMul, Nat.reduceLT, Nat.reduceLeDiff, Nat.reduceEqDiff, Nat.reduceDiv, Nat.reduceMod, Nat.reducePow, Int.reduceAdd, Int.reduceSub, Int.reduceMul, Int.reduceLT, Int.reduceLE, Int.reduceEq, Int.reduceNe, Int.reducePow, Int.reduceToNat, Int.reduceNeg]
  refine call_giv (clone_u8 r) ?_
  simp -dsimp -implicitDefEqProofs (disch := first | omega | (simp only [List.length_append, List.length_cons, List.length_nil, List.length_take, List.length_drop]; omega)) only [gD, ↓aPre, aPost, oneW, allOne, retV, retVA, ↓reduceIte, reduceCtorEq, Nat.reduceAdd, Nat.reduceSub, Nat.reduceMul, Nat.reduceLT, Nat.reduceLeDiff, Nat.reduceEqDiff, Nat.reduceDiv, Nat.reduceMod, Nat.reducePow, Int.reduceAdd, Int.reduceSub, Int.reduceMul, Int.reduceLT, Int.reduceLE, Int.reduceEq, Int.reduceNe, Int.reducePow, Int.reduceToNat, Int.reduceNeg]
  refine loop_of (fun s => ∃ (i : Nat), i ≤ n ∧ s.tm 1 = .d (.c (.int .i64 most)) ∧ s.tm 2 = .ptr 2 0 ∧ s.hp 2 = some (.box [.d (.c (.int .i64 (lw W i))), .d (.c (.int .i64 (lw H i))), .d (.lst 1 (li .u8 (ll W H l i)))]) ∧ s.tm 6 = .sl 27 3 0 (i + 1) ∧ s.hp 27 = some (.row 3 (tabD (levD .u8 W H l) (i + 1)))) (fun s => match s.tm 6 with | .sl _ _ _ k => n + 1 - k | _ => 0) ?_ ?_
  · refine ⟨0, Nat.zero_le _, ?_⟩
    simp -dsimp -implicitDefEqProofs (disch := first | omega | (simp only [List.length_append, List.length_cons, List.length_nil, List.length_take, List.length_drop]; omega)) only [tabD, levD, gD, lw, ll, List.nil_append, Nat.zero_add, ↓aPre, aPost, oneW, allOne, retV, retVA, ↓reduceIte, reduceCtorEq, Nat.reduceAdd, Nat.reduceSub, Nat.reduceMul, Nat.reduceLT, Nat.reduceLeDiff, Nat.reduceEqDiff, Nat.reduceDiv, Nat.reduceMod, Nat.reducePow, Int.reduceAdd, Int.reduceSub, Int.reduceMul, Int.reduceLT, Int.reduceLE, Int.reduceEq, Int.reduceNe, Int.reducePow, Int.reduceToNat, Int.reduceNeg]
  rintro s ⟨i, hi, hs⟩
  have el := tabD_len (levD .u8 W H l) (i + 1)
  by_cases hlt : i < n
  · have hb := hbig i hlt
    have hlm : (i : Int) + 1 < most := by omega
    have hhv : Giv Try.prog 17 [gD .u8 (lw W i) (lw H i) (ll W H l i)] (retV [gD .u8 (lw W (i + 1)) (lw H (i + 1)) (ll W H l (i + 1)), .c (.int .i64 0)]) := halve_u8 (r.lev (by decide) i) (lw_pos hW i) (lw_pos hH i)
    have et : tabD (levD .u8 W H l) (i + 1 + 1) = tabD (levD .u8 W H l) (i + 1) ++ [.agg [.c (.int .i64 (lw W (i + 1))), .c (.int .i64 (lw H (i + 1))), .lst 1 (li .u8 (ll W H l (i + 1)))]] := rfl
    unfold bigP at hb
    by_cases hb1 : 1 < lw W i
    · simp -dsimp -implicitDefEqProofs (disch := first | omega | (simp only [List.length_append, List.length_cons, List.length_nil, List.length_take, List.length_drop]; omega)) only [hs, ↓aPre, aPost, oneW, allOne, retV, retVA, ↓reduceIte, reduceCtorEq, Nat.reduceAdd, Nat.reduceSub, Nat.reduceMul, Nat.reduceLT, Nat.reduceLeDiff, Nat.reduceEqDiff, Nat.reduceDiv, Nat.reduceMod, Nat.reducePow, Int.reduceAdd, Int.reduceSub, Int.reduceMul, Int.reduceLT, Int.reduceLE, Int.reduceEq, Int.reduceNe, Int.reducePow, Int.reduceToNat, Int.reduceNeg]
      refine call_giv hhv ?_
      simp -dsimp -implicitDefEqProofs (disch := first | omega | (simp only [List.length_append, List.length_cons, List.length_nil, List.length_take, List.length_drop]; omega)) only [hs, gD, el, ↓aPre, aPost, oneW, allOne, retV, retVA, ↓reduceIte, reduceCtorEq, Nat.reduceAdd, Nat.reduceSub, Nat.reduceMul, Nat.reduceLT, Nat.reduceLeDiff, Nat.reduceEqDiff, Nat.reduceDiv, Nat.reduceMod, Nat.reducePow, Int.reduceAdd, Int.reduceSub, Int.reduceMul, Int.reduceLT, Int.reduceLE, Int.reduceEq, Int.reduceNe, Int.reducePow, Int.reduceToNat, Int.reduceNeg]
      refine round_of ⟨i + 1, by omega, ?_⟩ ?_
      · simp -dsimp -implicitDefEqProofs (disch := first | omega | (simp only [List.length_append, List.length_cons, List.length_nil, List.length_take, List.length_drop]; omega)) only [hs, gD, el, et, ↓aPre, aPost, oneW, allOne, retV, retVA, ↓reduceIte, reduceCtorEq, Nat.reduceAdd, Nat.reduceSub, Nat.reduceMul, Nat.reduceLT, Nat.reduceLeDiff, Nat.reduceEqDiff, Nat.reduceDiv, Nat.reduceMod, Nat.reducePow, Int.reduceAdd, Int.reduceSub, Int.reduceMul, Int.reduceLT, Int.reduceLE, Int.reduceEq, Int.reduceNe, Int.reducePow, Int.reduceToNat, Int.reduceNeg]
      · simp -dsimp -implicitDefEqProofs (disch := first | omega | (simp only [List.length_append, List.length_cons, List.length_nil, List.length_take, List.length_drop]; omega)) only [hs, ↓aPre, aPost, oneW, allOne, retV, retVA, ↓reduceIte, reduceCtorEq, Nat.reduceAdd, Nat.reduceSub, Nat.reduceMul, Nat.reduceLT, Nat.reduceLeDiff, Nat.reduceEqDiff, Nat.reduceDiv, Nat.reduceMod, Nat.reducePow, Int.reduceAdd, Int.reduceSub, Int.reduceMul, Int.reduceLT, Int.reduceLE, Int.reduceEq, Int.reduceNe, Int.reducePow, Int.reduceToNat, Int.reduceNeg]
        omega
    · have hb2 : 1 < lw H i := by omega
      simp -dsimp -implicitDefEqProofs (disch := first | omega | (simp only [List.length_append, List.length_cons, List.length_nil, List.length_take, List.length_drop]; omega)) only [hs, ↓aPre, aPost, oneW, allOne, retV, retVA, ↓reduceIte, reduceCtorEq, Nat.reduceAdd, Nat.reduceSub, Nat.reduceMul, Nat.reduceLT, Nat.reduceLeDiff, Nat.reduceEqDiff, Nat.reduceDiv, Nat.reduceMod, Nat.reducePow, Int.reduceAdd, Int.reduceSub, Int.reduceMul, Int.reduceLT, Int.reduceLE, Int.reduceEq, Int.reduceNe, Int.reducePow, Int.reduceToNat, Int.reduceNeg]
      refine call_giv hhv ?_
      simp -dsimp -implicitDefEqProofs (disch := first | omega | (simp only [List.length_append, List.length_cons, List.length_nil, List.length_take, List.length_drop]; omega)) only [hs, gD, el, ↓aPre, aPost, oneW, allOne, retV, retVA, ↓reduceIte, reduceCtorEq, Nat.reduceAdd, Nat.reduceSub, Nat.reduceMul, Nat.reduceLT, Nat.reduceLeDiff, Nat.reduceEqDiff, Nat.reduceDiv, Nat.reduceMod, Nat.reducePow, Int.reduceAdd, Int.reduceSub, Int.reduceMul, Int.reduceLT, Int.reduceLE, Int.reduceEq, Int.reduceNe, Int.reducePow, Int.reduceToNat, Int.reduceNeg]
      refine round_of ⟨i + 1, by omega, ?_⟩ ?_
      · simp -dsimp -implicitDefEqProofs (disch := first | omega | (simp only [List.length_append, List.length_cons, List.length_nil, List.length_take, List.length_drop]; omega)) only [hs, gD, el, et, ↓aPre, aPost, oneW, allOne, retV, retVA, ↓reduceIte, reduceCtorEq, Nat.reduceAdd, Nat.reduceSub, Nat.reduceMul, Nat.reduceLT, Nat.reduceLeDiff, Nat.reduceEqDiff, Nat.reduceDiv, Nat.reduceMod, Nat.reducePow, Int.reduceAdd, Int.reduceSub, Int.reduceMul, Int.reduceLT, Int.reduceLE, Int.reduceEq, Int.reduceNe, Int.reducePow, Int.reduceToNat, Int.reduceNeg]
      · simp -dsimp -implicitDefEqProofs (disch := first | omega | (simp only [List.length_append, List.length_cons, List.length_nil, List.length_take, List.length_drop]; omega)) only [hs, ↓aPre, aPost, oneW, allOne, retV, retVA, ↓reduceIte, reduceCtorEq, Nat.reduceAdd, Nat.reduceSub, Nat.reduceMul, Nat.reduceLT, Nat.reduceLeDiff, Nat.reduceEqDiff, Nat.reduceDiv, Nat.reduceMod, Nat.reducePow, Int.reduceAdd, Int.reduceSub, Int.reduceMul, Int.reduceLT, Int.reduceLE, Int.reduceEq, Int.reduceNe, Int.reducePow, Int.reduceToNat, Int.reduceNeg]
        omega
  · obtain rfl : i = n := by omega
    by_cases hlm : (i : Int) + 1 < most
    · have hb : ¬ bigP W H i := hend.resolve_left (by omega)
      unfold bigP at hb
      have hb1 : ¬ 1 < lw W i := by omega
      have hb2 : ¬ 1 < lw H i := by omega
      simp -dsimp -implicitDefEqProofs (disch := first | omega | (simp only [List.length_append, List.length_cons, List.length_nil, List.length_take, List.length_drop]; omega)) only [hs, el, ↓aPre, aPost, oneW, allOne, retV, retVA, ↓reduceIte, reduceCtorEq, Nat.reduceAdd, Nat.reduceSub, Nat.reduceMul, Nat.reduceLT, Nat.reduceLeDiff, Nat.reduceEqDiff, Nat.reduceDiv, Nat.reduceMod, Nat.reducePow, Int.reduceAdd, Int.reduceSub, Int.reduceMul, Int.reduceLT, Int.reduceLE, Int.reduceEq, Int.reduceNe, Int.reducePow, Int.reduceToNat, Int.reduceNeg]
      exact post_eq rfl
    · simp -dsimp -implicitDefEqProofs (disch := first | omega | (simp only [List.length_append, List.length_cons, List.length_nil, List.length_take, List.length_drop]; omega)) only [hs, el, ↓aPre, aPost, oneW, allOne, retV, retVA, ↓reduceIte, reduceCtorEq, Nat.reduceAdd, Nat.reduceSub, Nat.reduceMul, Nat.reduceLT, Nat.reduceLeDiff, Nat.reduceEqDiff, Nat.reduceDiv, Nat.reduceMod, Nat.reducePow, Int.reduceAdd, Int.reduceSub, Int.reduceMul, Int.reduceLT, Int.reduceLE, Int.reduceEq, Int.reduceNe, Int.reducePow, Int.reduceToNat, Int.reduceNeg]
      exact post_eq rfl
theorem of_f_u8 (w h : Int) (l : List Int) (hl : l.length ≤ 140737488355328) (hn : ¬ (0 ≤ w ∧ 0 ≤ h ∧ w ≤ 40 ∧ h ≤ 40 ∧ 0 < l.length)) : Giv Try.prog 7 [.c (.int .i64 w), .c (.int .i64 h), .lst 1 (li .u8 l)] (retV [gD .u8 0 0 [], gD .i64 0 0 [], .c (.bool false)]) := by
  refine Giv.of mixed c7 (Nat.le_of_ble_eq_true rfl) ?_
  by_cases h1 : w < 0
  · simp -dsimp -implicitDefEqProofs (disch := first | omega | (simp only [List.length_append, List.length_cons, List.length_nil, List.length_take, List.length_drop]; omega)) only [a7, gD, ↓aPre, aPost, oneW, allOne, retV, retVA, ↓reduceIte, reduceCtorEq, Nat.reduceAdd, Nat.reduceSub, Nat.reduceMul, Nat.reduceLT, Nat.reduceLeDiff, Nat.reduceEqDiff, Nat.reduceDiv, Nat.reduceMod, Nat.reducePow, Int.reduceAdd, Int.reduceSub, Int.reduceMul, Int.reduceLT, Int.reduceLE, Int.reduceEq, Int.reduceNe, Int.reducePow, Int.reduceToNat, Int.reduceNeg]
    exact post_le (by repeat (first | exact leD.nil | exact leE.refl _ | exact leE.nil _ | refine leD.cons ?_ ?_ | refine leE.agg ?_))
  by_cases h2 : h < 0
  · simp -dsimp -implicitDefEqProofs (disch := first | omega | (simp only [List.length_append, List.length_cons, List.length_nil, List.length_take, List.length_drop]; omega)) only [a7, gD, ↓aPre, aPost, oneW, allOne, retV, retVA, ↓reduceIte, reduceCtorEq, Nat.reduceAdd, Nat.reduceSub, Nat.reduceMul, Nat.reduceLT, Nat.reduceLeDiff, Nat.reduceEqDiff, Nat.reduceDiv, Nat.reduceMod, Nat.reducePow, Int.reduceAdd, Int.reduceSub, Int.reduceMul, Int.reduceLT, Int.reduceLE, Int.reduceEq, Int.reduceNe, Int.reducePow, Int.reduceToNat, Int.reduceNeg]
    exact post_le (by repeat (first | exact leD.nil | exact leE.refl _ | exact leE.nil _ | refine leD.cons ?_ ?_ | refine leE.agg ?_))
  by_cases h3 : 40 < w
  · simp -dsimp -implicitDefEqProofs (disch := first | omega | (simp only [List.length_append, List.length_cons, List.length_nil, List.length_take, List.length_drop]; omega)) only [a7, gD, ↓aPre, aPost, oneW, allOne, retV, retVA, ↓reduceIte, reduceCtorEq, Nat.reduceAdd, Nat.reduceSub, Nat.reduceMul, Nat.reduceLT, Nat.reduceLeDiff, Nat.reduceEqDiff, Nat.reduceDiv, Nat.reduceMod, Nat.reducePow, Int.reduceAdd, Int.reduceSub, Int.reduceMul, Int.reduceLT, Int.reduceLE, Int.reduceEq, Int.reduceNe, Int.reducePow, Int.reduceToNat, Int.reduceNeg]
    exact post_le (by repeat (first | exact leD.nil | exact leE.refl _ | exact leE.nil _ | refine leD.cons ?_ ?_ | refine leE.agg ?_))
  by_cases h4 : 40 < h
  · simp -dsimp -implicitDefEqProofs (disch := first | omega | (simp only [List.length_append, List.length_cons, List.length_nil, List.length_take, List.length_drop]; omega)) only [a7, gD, ↓aPre, aPost, oneW, allOne, retV, retVA, ↓reduceIte, reduceCtorEq, Nat.reduceAdd, Nat.reduceSub, Nat.reduceMul, Nat.reduceLT, Nat.reduceLeDiff, Nat.reduceEqDiff, Nat.reduceDiv, Nat.reduceMod, Nat.reducePow, Int.reduceAdd, Int.reduceSub, Int.reduceMul, Int.reduceLT, Int.reduceLE, Int.reduceEq, Int.reduceNe, Int.reducePow, Int.reduceToNat, Int.reduceNeg]
    exact post_le (by repeat (first | exact leD.nil | exact leE.refl _ | exact leE.nil _ | refine leD.cons ?_ ?_ | refine leE.agg ?_))
  obtain rfl : l = [] := List.eq_nil_of_length_eq_zero (by omega)
  simp -dsimp -implicitDefEqProofs (disch := first | omega | (simp only [List.length_append, List.length_cons, List.length_nil, List.length_take, List.length_drop]; omega)) only [a7, gD, ↓aPre, aPost, oneW, allOne, retV, retVA, ↓reduceIte, reduceCtorEq, Nat.reduceAdd, Nat.reduceSub, Nat.reduceMul, Nat.reduceLT, Nat.reduceLeDiff, Nat.reduceEqDiff, Nat.reduceDiv, Nat.reduceMod, Nat.reducePow, Int.reduceAdd, Int.reduceSub, Int.reduceMul, Int.reduceLT, Int.reduceLE, Int.reduceEq, Int.reduceNe, Int.reducePow, Int.reduceToNat, Int.reduceNeg]
  exact post_le (by repeat (first | exact leD.nil | exact leE.refl _ | exact leE.nil _ | refine leD.cons ?_ ?_ | refine leE.agg ?_))
theorem of_t_u8 {w h : Nat} {l : List Int} (hw : w ≤ 40) (hh : h ≤ 40) (hl0 : 0 < l.length) (hl : l.length ≤ 140737488355328) (hI : In 256 l) : Giv Try.prog 7 [.c (.int .i64 w), .c (.int .i64 h), .lst 1 (li .u8 l)] (retV [gD .u8 w h (cy l (w * h)), gD .i64 w h (cy l (w * h)), .c (.bool true)]) := by
  refine Giv.of mixed c7 (Nat.le_of_ble_eq_true rfl) ?_
  have hwh : w * h ≤ 1600 := Nat.le_trans (Nat.mul_le_mul hw hh) (by decide)
  obtain ⟨p, hp⟩ : ∃ p : Nat, p = w * h := ⟨_, rfl⟩
  have hp2 : (w : Int) * (h : Int) = p := by rw [hp, Int.natCast_mul]
  rw [← hp] at hwh ⊢
  have hl1 : ¬ (l.length : Int) = 0 := by omega
  simp -dsimp -implicitDefEqProofs (disch := first | omega | (simp only [List.length_append, List.length_cons, List.length_nil, List.length_take, List.length_drop]; omega)) only [a7, gD, hp2, ibeq_f hl1, hl1, ↓aPre, aPost, oneW, allOne, retV, retVA, ↓reduceIte, reduceCtorEq, Nat.reduceAdd, Nat.reduceSub, Nat.reduceMul, Nat.reduceLT, Nat.reduceLeDiff, Nat.reduceEqDiff, Nat.reduceDiv, Nat.reduceMod, Nat.reducePow, Int.reduceAdd, Int.reduceSub, Int.reduceMul, Int.reduceLT, Int.reduceLE, Int.reduceEq, Int.reduceNe, Int.reducePow, Int.reduceToNat, Int.reduceNeg]
  refine loop_nilBB 9 2 100 1 [.d (.c (.int .i64 w)), .d (.c (.int .i64 h)), .d (.c (.slice none 0 0))] 10 2 101 1 [.d (.c (.int .i64 w)), .d (.c (.int .i64 h)), .d (.c (.slice none 0 0))] (fun s => ∃ (i : Nat), i ≤ p ∧ s.tm 2 = .d (.lst 1 (li .u8 l)) ∧ s.tm 6 = .ptr 6 0 ∧ s.hp 6 = some (.box [.d (.c (.int .i64 0)), .d (.c (.int .i64 0)), .d (.c (.slice none 0 0))]) ∧ s.tm 7 = .ptr 7 0 ∧ s.hp 7 = some (.box [.d (.c (.int .i64 0)), .d (.c (.int .i64 0)), .d (.c (.slice none 0 0))]) ∧ s.tm 9 = .ptr 9 0 ∧ s.tm 10 = .ptr 10 0 ∧ s.tm 41 = .d (.c (.int .i64 p)) ∧ s.tm 42 = .d (.c (.int .i64 i)) ∧ s.hp 9 = some (.box [.d (.c (.int .i64 w)), .d (.c (.int .i64 h)), .sl 100 1 0 i]) ∧ s.hp 100 = some (.row 1 (li .u8 (cy l i))) ∧ s.hp 10 = some (.box [.d (.c (.int .i64 w)), .d (.c (.int .i64 h)), .sl 101 1 0 i]) ∧ s.hp 101 = some (.row 1 (li .i64 (cy l i)))) (fun s => p - (avN (s.tm 42)).toNat) ?_ rfl (by decide) (by decide) ?_ rfl (by decide) (by decide) ?_ ?_
  · simp -dsimp -implicitDefEqProofs (disch := first | omega | (simp only [List.length_append, List.length_cons, List.length_nil, List.length_take, List.length_drop]; omega)) only [↓aPre, aPost, oneW, allOne, retV, retVA, ↓reduceIte, reduceCtorEq, Nat.reduceAdd, Nat.reduceSub, Nat.reduceMul, Nat.reduceLT, Nat.reduceLeDiff, Nat.reduceEqDiff, Nat.reduceDiv, Nat.reduceMod, Nat.reducePow, Int.reduceAdd, Int.reduceSub, Int.reduceMul, Int.reduceLT, Int.reduceLE, Int.reduceEq, Int.reduceNe, Int.reducePow, Int.reduceToNat, Int.reduceNeg]
  · simp -dsimp -implicitDefEqProofs (disch := first | omega | (simp only [List.length_append, List.length_cons, List.length_nil, List.length_take, List.length_drop]; omega)) only [List.set_cons_succ, List.set_cons_zero, ↓aPre, aPost, oneW, allOne, retV, retVA, ↓reduceIte, reduceCtorEq, Nat.reduceAdd, Nat.reduceSub, Nat.reduceMul, Nat.reduceLT, Nat.reduceLeDiff, Nat.reduceEqDiff, Nat.reduceDiv, Nat.reduceMod, Nat.reducePow, Int.reduceAdd, Int.reduceSub, Int.reduceMul, Int.reduceLT, Int.reduceLE, Int.reduceEq, Int.reduceNe, Int.reducePow, Int.reduceToNat, Int.reduceNeg]
  · refine ⟨0, Nat.zero_le _, ?_⟩
    simp -dsimp -implicitDefEqProofs (disch := first | omega | (simp only [List.length_append, List.length_cons, List.length_nil, List.length_take, List.length_drop]; omega)) only [cy, tab, Int.natCast_zero, List.set_cons_succ, List.set_cons_zero, ↓aPre, aPost, oneW, allOne, retV, retVA, ↓reduceIte, reduceCtorEq, Nat.reduceAdd, Nat.reduceSub, Nat.reduceMul, Nat.reduceLT, Nat.reduceLeDiff, Nat.reduceEqDiff, Nat.reduceDiv, Nat.reduceMod, Nat.reducePow, Int.reduceAdd, Int.reduceSub, Int.reduceMul, Int.reduceLT, Int.reduceLE, Int.reduceEq, Int.reduceNe, Int.reducePow, Int.reduceToNat, Int.reduceNeg]
  rintro s ⟨i, hi, hs⟩
  have el : (cy l i).length = i := tab_len ..
  by_cases hlt : i < p
  · obtain ⟨q, hq⟩ : ∃ q : Nat, q = i % l.length := ⟨_, rfl⟩
    have hql : q < l.length := by rw [hq]; exact Nat.mod_lt _ hl0
    have hq2 : (i : Int) % (l.length : Int) = (q : Int) := by rw [hq, Int.natCast_emod]
    have hv := hI.get (by decide) q
    have et : cy l (i + 1) = cy l i ++ [l.getD q 0] := by rw [cy, tab, ← cy, ← hq]
    simp -dsimp -implicitDefEqProofs (disch := first | omega | (simp only [List.length_append, List.length_cons, List.length_nil, List.length_take, List.length_drop]; omega)) only [hs, hq2, ibeq_f hl1, hl1, el, ↓aPre, aPost, oneW, allOne, retV, retVA, ↓reduceIte, reduceCtorEq, Nat.reduceAdd, Nat.reduceSub, Nat.reduceMul, Nat.reduceLT, Nat.reduceLeDiff, Nat.reduceEqDiff, Nat.reduceDiv, Nat.reduceMod, Nat.reducePow, Int.reduceAdd, Int.reduceSub, Int.reduceMul, Int.reduceLT, Int.reduceLE, Int.reduceEq, Int.reduceNe, Int.reducePow, Int.reduceToNat, Int.reduceNeg]
    refine ⟨⟨?_, ?_⟩, ?_⟩
    all_goals
      refine round_of ⟨i + 1, by omega, ?_⟩ ?_
      · simp -dsimp -implicitDefEqProofs (disch := first | omega | (simp only [List.length_append, List.length_cons, List.length_nil, List.length_take, List.length_drop]; omega)) only [hs, hq2, ibeq_f hl1, hl1, el, et, ↓aPre, aPost, oneW, allOne, retV, retVA, ↓reduceIte, reduceCtorEq, Nat.reduceAdd, Nat.reduceSub, Nat.reduceMul, Nat.reduceLT, Nat.reduceLeDiff, Nat.reduceEqDiff, Nat.reduceDiv, Nat.reduceMod, Nat.reducePow, Int.reduceAdd, Int.reduceSub, Int.reduceMul, Int.reduceLT, Int.reduceLE, Int.reduceEq, Int.reduceNe, Int.reducePow, Int.reduceToNat, Int.reduceNeg]
      · simp -dsimp -implicitDefEqProofs (disch := first | omega | (simp only [List.length_append, List.length_cons, List.length_nil, List.length_take, List.length_drop]; omega)) only [hs, ↓aPre, aPost, oneW, allOne, retV, retVA, ↓reduceIte, reduceCtorEq, Nat.reduceAdd, Nat.reduceSub, Nat.reduceMul, Nat.reduceLT, Nat.reduceLeDiff, Nat.reduceEqDiff, Nat.reduceDiv, Nat.reduceMod, Nat.reducePow, Int.reduceAdd, Int.reduceSub, Int.reduceMul, Int.reduceLT, Int.reduceLE, Int.reduceEq, Int.reduceNe, Int.reducePow, Int.reduceToNat, Int.reduceNeg]
        omega
  · obtain rfl : i = p := by omega
    simp -dsimp -implicitDefEqProofs (disch := first | omega | (simp only [List.length_append, List.length_cons, List.length_nil, List.length_take, List.length_drop]; omega)) only [hs, el, ↓aPre, aPost, oneW, allOne, retV, retVA, ↓reduceIte, reduceCtorEq, Nat.reduceAdd, Nat.reduceSub, Nat.reduceMul, Nat.reduceLT, Nat.reduceLeDiff, Nat.reduceEqDiff, Nat.reduceDiv, Nat.reduceMod, Nat.reducePow, Int.reduceAdd, Int.reduceSub, Int.reduceMul, Int.reduceLT, Int.reduceLE, Int.reduceEq, Int.reduceNe, Int.reducePow, Int.reduceToNat, Int.reduceNeg]
    exact post_eq rfl
theorem levels_e_u32 {m : Int} {W H : Nat} {l : List Int} (r : Rt m W H l) (most : Int) (h0 : W = 0 ∨ H = 0 ∨ most < 1) : Giv Try.prog 23 [gD .u32 W H l, .c (.int .i64 most)] (retV [.lst 3 [], .c (.int .i64 1)]) := by
  refine Giv.of mixed c23 (Nat.le_of_ble_eq_true rfl) ?_
  have hr := right_u32 r
  by_cases hw : W = 0
  · subst hw
    simp -dsimp -implicitDefEqProofs (disch := first | omega | (simp only [List.length_append, List.length_cons, List.length_nil, List.length_take, List.length_drop]; omega)) only [a23, gD, ↓aPre, aPost, oneW, allOne, retV, retVA, ↓reduceIte, reduceCtorEq, Nat.reduceAdd, Nat.reduceSub, Nat.reduceMul, Nat.reduceLT, Nat.reduceLeDiff, Nat.reduceEqDiff, Nat.reduceDiv, Nat.reduceMod, Nat.reducePow, Int.reduceAdd, Int.reduceSub, Int.reduceMul, Int.reduceLT, Int.reduceLE, Int.reduceEq, Int.reduceNe, Int.reducePow, Int.reduceToNat, Int.reduceNeg]
    refine call_giv hr ?_
    simp -dsimp -implicitDefEqProofs (disch := first | omega | (simp only [List.length_append, List.length_cons, List.length_nil, List.length_take, List.length_drop]; omega)) only [gD, Int.natCast_zero, ↓aPre, aPost, oneW, allOne, retV, retVA, ↓reduceIte, reduceCtorEq, Nat.reduceAdd, Nat.reduceSub, Nat.reduceMul, Nat.reduceLT, Nat.reduceLeDiff, Nat.reduceEqDiff, Nat.reduceDiv, Nat.reduceMod, Nat.reducePow, Int.reduceAdd, Int.reduceSub, Int.reduceMul, Int.reduceLT, Int.reduceLE, Int.reduceEq, Int.reduceNe, Int.reducePow, Int.reduceToNat, Int.reduceNeg]
    exact post_le (by repeat (first | exact leD.nil | exact leE.refl _ | exact leE.nil _ | refine leD.cons ?_ ?_ | refine leE.agg ?_))
  have hw1 : ¬ (W : Int) = 0 := by omega
  by_cases hh : H = 0
  · subst hh
    simp -dsimp -implicitDefEqProofs (disch := first | omega | (simp only [List.length_append, List.length_cons, List.length_nil, List.length_take, List.length_drop]; omega)) only [a23, gD, ↓aPre, aPost, oneW, allOne, retV, retVA, ↓reduceIte, reduceCtorEq, Nat.reduceAdd, Nat.reduceSub, Nat.reduceMul, Nat.reduceLT, Nat.reduceLeDiff, Nat.reduceEqDiff, Nat.reduceDiv, Nat.reduceMod, Nat.reducePow, Int.reduceAdd, Int.reduceSub, Int.reduceMul, Int.reduceLT, Int.reduceLE, Int.reduceEq, Int.reduceNe, Int.reducePow, Int.reduceToNat, Int.reduceNeg]
    refine call_giv hr ?_
    simp -dsimp -implicitDefEqProofs (disch := first | omega | (simp only [List.length_append, List.length_cons, List.length_nil, List.length_take, List.length_drop]; omega)) only [gD, ibeq_f hw1, hw1, Int.natCast_zero, ↓aPre, aPost, oneW, allOne, retV, retVA, ↓reduceIte, reduceCtorEq, Nat.reduceAdd, Nat.reduceSub, Nat.reduceMul, Nat.reduceLT, Nat.reduceLeDiff, Nat.reduceEqDiff, Nat.reduceDiv, Nat.reduceMod, Nat.reducePow, Int.reduceAdd, Int.reduceSub, Int.reduceMul, Int.reduceLT, Int.reduceLE, Int.reduceEq, Int.reduceNe, Int.reducePow, Int.reduceToNat, Int.reduceNeg]
    exact post_le (by repeat (first | exact leD.nil | exact leE.refl _ | exact leE.nil _ | refine leD.cons ?_ ?_ | refine leE.agg ?_))
  have hh1 : ¬ (H : Int) = 0 := by omega
  have hm : most < 1 := by omega
  simp -dsimp -implicitDefEqProofs (disch := first | omega | (simp only [List.length_append, List.length_cons, List.length_nil, List.length_take, List.length_drop]; omega)) only [a23, gD, ↓aPre, aPost, oneW, allOne, retV, retVA, ↓reduceIte, reduceCtorEq, Nat.reduceAdd, Nat.reduceSub, Nat.reduceMul, Nat.reduceLT, Nat.reduceLeDiff, Nat.reduceEqDiff, Nat.reduceDiv, Nat.reduceMod, Nat.reducePow, Int.reduceAdd, Int.reduceSub, Int.reduceMul, Int.reduceLT, Int.reduceLE, Int.reduceEq, Int.reduceNe, Int.reducePow, Int.reduceToNat, Int.reduceNeg]
  refine call_giv hr ?_
  simp -dsimp -implicitDefEqProofs (disch := first | omega | (simp only [List.length_append, List.length_cons, List.length_nil, List.length_take, List.length_drop]; omega)) only [gD, ibeq_f hw1, hw1, ibeq_f hh1, hh1, ↓aPre, aPost, oneW, allOne, retV, retVA, ↓reduceIte, reduceCtorEq, Nat.reduceAdd, Nat.reduceSub, Nat.reduceMul, Nat.reduceLT, Nat.reduceLeDiff, Nat.reduceEqDiff, Nat.reduceDiv, Nat.reduceMod, Nat.reducePow, Int.reduceAdd, Int.reduceSub, Int.reduceMul, Int.reduceLT, Int.reduceLE, Int.reduceEq, Int.reduceNe, Int.reducePow, Int.reduceToNat, Int.reduceNeg]
  exact post_le (by repeat (first | exact leD.nil | exact leE.refl _ | exact leE.nil _ | refine leD.cons ?_ ?_ | refine leE.agg ?_))
theorem levels_u32 {W H : Nat} {l : List Int} (r : Rt 4294967296 W H l) (hW : 1 ≤ W) (hH : 1 ≤ H) (most : Int) (n : Nat) (hn6 : n ≤ 6) (hnm : (n : Int) + 1 ≤ most) (hbig : ∀ i, i < n → bigP W H i) (hend : (n : Int) + 1 = most ∨ ¬ bigP W H n) :
    Giv Try.prog 23 [gD .u32 W H l, .c (.int .i64 most)] (retV [.lst 3 (tabD (levD .u32 W H l) (n + 1)), .c (.int .i64 0)]) := by
  refine Giv.of mixed c23 (Nat.le_of_ble_eq_true rfl) ?_
  have hr := right_u32 r
  have hw1 : ¬ (W : Int) = 0 := by omega
  have hh1 : ¬ (H : Int) = 0 := by omega
  simp -dsimp -implicitDefEqProofs (disch := first | omega | (simp only [List.length_append, List.length_cons, List.length_nil, List.length_take, List.length_drop]; omega)) only [a23, gD, ↓aPre, aPost, oneW, allOne, retV, retVA, ↓reduceIte, reduceCtorEq, Nat.reduceAdd, Nat.reduceSub, Nat.reduceMul, Nat.reduceLT, Nat.reduceLeDiff, Nat.reduceEqDiff, Nat.reduceDiv, Nat.reduceMod, Nat.reducePow, Int.reduceAdd, Int.reduceSub, Int.reduceMul, Int.reduceLT, Int.reduceLE, Int.reduceEq, Int.reduceNe, Int.reducePow, Int.reduceToNat, Int.reduceNeg]
  refine call_giv hr ?_
  simp -dsimp -implicitDefEqProofs (disch := first | omega | (simp only [List.length_append, List.length_cons, List.length_nil, List.length_take, List.length_drop]; omega)) only [gD, ibeq_f hw1, hw1, ibeq_f hh1, hh1, ↓aPre, aPost, oneW, allOne, retV, retVA, ↓reduceIte, reduceCtorEq, Nat.reduceAdd, Nat.reduceSub, Nat.reduceMul, Nat.reduceLT, Nat.reduceLeDiff, Nat.reduceEqDiff, Nat.reduceDiv, Nat.reduceMod, Nat.reducePow, Int.reduceAdd, Int.reduceSub, Int.reduceMul, Int.reduceLT, Int.reduceLE, Int.reduceEq, Int.reduceNe, Int.reducePow, Int.reduceToNat, Int.reduceNeg]
  refine call_giv (clone_u32 r) ?_
  simp -dsimp -implicitDefEqProofs (disch := first | omega | (simp only [List.length_append, List.length_cons, List.length_nil, List.length_take, List.length_drop]; omega)) only [gD, ↓aPre, aPost, oneW, allOne, retV, retVA, ↓reduceIte, reduceCtorEq, Nat.reduceAdd, Nat.reduceSub, Nat.reduceMul, Nat.reduceLT, Nat.reduceLeDiff, Nat.reduceEqDiff, Nat.reduceDiv, Nat.reduceMod, Nat.reducePow, Int.reduceAdd, Int.reduceSub, Int.reduceMul, Int.reduceLT, Int.reduceLE, Int.reduceEq, Int.reduceNe, Int.reducePow, Int.reduceToNat, Int.reduceNeg]
  refine loop_of (fun s => ∃ (i : Nat), i ≤ n ∧ s.tm 1 = .d (.c (.int .i64 most)) ∧ s.tm 2 = .ptr 2 0 ∧ s.hp 2 = some (.box [.d (.c (.int .i64 (lw W i))), .d (.c (.int .i64 (lw H i))), .d (.lst 1 (li .u32 (ll W H l i)))]) ∧ s.tm 6 = .sl 27 3 0 (i + 1) ∧ s.hp 27 = some (.row 3 (tabD (levD .u32 W H l) (i + 1)))) (fun s => match s.tm 6 with | .sl _ _ _ k => n + 1 - k | _ => 0) ?_ ?_
  · refine ⟨0, Nat.zero_le _, ?_⟩
    simp -dsimp -implicitDefEqProofs (disch := first | omega | (simp only [List.length_append, List.length_cons, List.length_nil, List.length_take, List.length_drop]; omega)) only [tabD, levD, gD, lw, ll, List.nil_append, Nat.zero_add, ↓aPre, aPost, oneW, allOne, retV, retVA, ↓reduceIte, reduceCtorEq, Nat.reduceAdd, Nat.reduceSub, Nat.reduceMul, Nat.reduceLT, Nat.reduceLeDiff, Nat.reduceEqDiff, Nat.reduceDiv, Nat.reduceMod, Nat.reducePow, Int.reduceAdd, Int.reduceSub, Int.reduceMul, Int.reduceLT, Int.reduceLE, Int.reduceEq, Int.reduceNe, Int.reducePow, Int.reduceToNat, Int.reduceNeg]
  rintro s ⟨i, hi, hs⟩
  have el := tabD_len (levD .u32 W H l) (i + 1)
  by_cases hlt : i < n
  · have hb := hbig i hlt
    have hlm : (i : Int) + 1 < most := by omega
    have hhv : Giv Try.prog 24 [gD .u32 (lw W i) (lw H i) (ll W H l i)] (retV [gD .u32 (lw W (i + 1)) (lw H (i + 1)) (ll W H l (i + 1)), .c (.int .i64 0)]) := halve_u32 (r.lev (by decide) i) (lw_pos hW i) (lw_pos hH i)
    have et : tabD (levD .u32 W H l) (i + 1 + 1) = tabD (levD .u32 W H l) (i + 1) ++ [.agg [.c (.int .i64 (lw W (i + 1))), .c (.int .i64 (lw H (i + 1))), .lst 1 (li .u32 (ll W H l (i + 1)))]] := rfl
    unfold bigP at hb
    by_cases hb1 : 1 < lw W i
    · simp -dsimp -implicitDefEqProofs (disch := first | omega | (simp only [List.length_append, List.length_cons, List.length_nil, List.length_take, List.length_drop]; omega)) only [hs, ↓aPre, aPost, oneW, allOne, retV, retVA, ↓reduceIte, reduceCtorEq, Nat.reduceAdd, Nat.reduceSub, Nat.reduceMul, Nat.reduceLT, Nat.reduceLeDiff, Nat.reduceEqDiff, Nat.reduceDiv, Nat.reduceMod, Nat.reducePow, Int.reduceAdd, Int.reduceSub, Int.reduceMul, Int.reduceLT, Int.reduceLE, Int.reduceEq, Int.reduceNe, Int.reducePow, Int.reduceToNat, Int.reduceNeg]
      refine call_giv hhv ?_
      simp -dsimp -implicitDefEqProofs (disch := first | omega | (simp only [List.length_append, List.length_cons, List.length_nil, List.length_take, List.length_drop]; omega)) only [hs, gD, el, ↓aPre, aPost, oneW, allOne, retV, retVA, ↓reduceIte, reduceCtorEq, Nat.reduceAdd, Nat.reduceSub, Nat.reduceMul, Nat.reduceLT, Nat.reduceLeDiff, Nat.reduceEqDiff, Nat.reduceDiv, Nat.reduceMod, Nat.reducePow, Int.reduceAdd, Int.reduceSub, Int.reduceMul, Int.reduceLT, Int.reduceLE, Int.reduceEq, Int.reduceNe, Int.reducePow, Int.reduceToNat, Int.reduceNeg]
      refine round_of ⟨i + 1, by omega, ?_⟩ ?_
      · simp -dsimp -implicitDefEqProofs (disch := first | omega | (simp only [List.length_append, List.length_cons, List.length_nil, List.length_take, List.length_drop]; omega)) only [hs, gD, el, et, ↓aPre, aPost, oneW, allOne, retV, retVA, ↓reduceIte, reduceCtorEq, Nat.reduceAdd, Nat.reduceSub, Nat.reduceMul, Nat.reduceLT, Nat.reduceLeDiff, Nat.reduceEqDiff, Nat.reduceDiv, Nat.reduceMod, Nat.reducePow, Int.reduceAdd, Int.reduceSub, Int.reduceMul, Int.reduceLT, Int.reduceLE, Int.reduceEq, Int.reduceNe, Int.reducePow, Int.reduceToNat, Int.reduceNeg]
      · simp -dsimp -implicitDefEqProofs (disch := first | omega | (simp only [List.length_append, List.length_cons, List.length_nil, List.length_take, List.length_drop]; omega)) only [hs, ↓aPre, aPost, oneW, allOne, retV, retVA, ↓reduceIte, reduceCtorEq, Nat.reduceAdd, Nat.reduceSub, Nat.reduceMul, Nat.reduceLT, Nat.reduceLeDiff, Nat.reduceEqDiff, Nat.reduceDiv, Nat.reduceMod, Nat.reducePow, Int.reduceAdd, Int.reduceSub, Int.reduceMul, Int.reduceLT, Int.reduceLE, Int.reduceEq, Int.reduceNe, Int.reducePow, Int.reduceToNat, Int.reduceNeg]
        omega
    · have hb2 : 1 < lw H i := by omega
      simp -dsimp -implicitDefEqProofs (disch := first | omega | (simp only [List.length_append, List.length_cons, List.length_nil, List.length_take, List.length_drop]; omega)) only [hs, ↓aPre, aPost, oneW, allOne, retV, retVA, ↓reduceIte, reduceCtorEq, Nat.reduceAdd, Nat.reduceSub, Nat.reduceMul, Nat.reduceLT, Nat.reduceLeDiff, Nat.reduceEqDiff, Nat.reduceDiv, Nat.reduceMod, Nat.reducePow, Int.reduceAdd, Int.reduceSub, Int.reduceMul, Int.reduceLT, Int.reduceLE, Int.reduceEq, Int.reduceNe, Int.reducePow, Int.reduceToNat, Int.reduceNeg]
      refine call_giv hhv ?_
      simp -dsimp -implicitDefEqProofs (disch := first | omega | (simp only [List.length_append, List.length_cons, List.length_nil, List.length_take, List.length_drop]; omega)) only [hs, gD, el, ↓aPre, aPost, oneW, allOne, retV, retVA, ↓reduceIte, reduceCtorEq, Nat.reduceAdd, Nat.reduceSub, Nat.reduceMul, Nat.reduceLT, Nat.reduceLeDiff, Nat.reduceEqDiff, Nat.reduceDiv, Nat.reduceMod, Nat.reducePow, Int.reduceAdd, Int.reduceSub, Int.reduceMul, Int.reduceLT, Int.reduceLE, Int.reduceEq, Int.reduceNe, Int.reducePow, Int.reduceToNat, Int.reduceNeg]
      refine round_of ⟨i + 1, by omega, ?_⟩ ?_
      · simp -dsimp -implicitDefEqProofs (disch := first | omega | (simp only [List.length_append, List.length_cons, List.length_nil, List.length_take, List.length_drop]; omega)) only [hs, gD, el, et, ↓aPre, aPost, oneW, allOne, retV, retVA, ↓reduceIte, reduceCtorEq, Nat.reduceAdd, Nat.reduceSub, Nat.reduceMul, Nat.reduceLT, Nat.reduceLeDiff, Nat.reduceEqDiff, Nat.reduceDiv, Nat.reduceMod, Nat.reducePow, Int.reduceAdd, Int.reduceSub, Int.reduceMul, Int.reduceLT, Int.reduceLE, Int.reduceEq, Int.reduceNe, Int.reducePow, Int.reduceToNat, Int.reduceNeg]
      · simp -dsimp -implicitDefEqProofs (disch := first | omega | (simp only [List.length_append, List.length_cons, List.length_nil, List.length_take, List.length_drop]; omega)) only [hs, ↓aPre, aPost, oneW, allOne, retV, retVA, ↓reduceIte, reduceCtorEq, Nat.reduceAdd, Nat.reduceSub, Nat.reduceMul, Nat.reduceLT, Nat.reduceLeDiff, Nat.reduceEqDiff, Nat.reduceDiv, Nat.reduceMod, Nat.reducePow, Int.reduceAdd, Int.reduceSub, Int.reduceMul, Int.reduceLT, Int.reduceLE, Int.reduceEq, Int.reduceNe, Int.reducePow, Int.reduceToNat, Int.reduceNeg]
        omega
  · obtain rfl : i = n := by omega
    by_cases hlm : (i : Int) + 1 < most
    · have hb : ¬ bigP W H i := hend.resolve_left (by omega)
      unfold bigP at hb
      have hb1 : ¬ 1 < lw W i := by omega
      have hb2 : ¬ 1 < lw H i := by omega
      simp -dsimp -implicitDefEqProofs (disch := first | omega | (simp only [List.length_append, List.length_cons, List.length_nil, List.length_take, List.length_drop]; omega)) only [hs, el, ↓aPre, aPost, oneW, allOne, retV, retVA, ↓reduceIte, reduceCtorEq, Nat.reduceAdd, Nat.reduceSub, Nat.reduceMul, Nat.reduceLT, Nat.reduceLeDiff, Nat.reduceEqDiff, Nat.reduceDiv, Nat.reduceMod, Nat.reducePow, Int.reduceAdd, Int.reduceSub, Int.reduceMul, Int.reduceLT, Int.reduceLE, Int.reduceEq, Int.reduceNe, Int.reducePow, Int.reduceToNat, Int.reduceNeg]
      exact post_eq rfl
    · simp -dsimp -implicitDefEqProofs (disch := first | omega | (simp only [List.length_append, List.length_cons, List.length_nil, List.length_take, List.length_drop]; omega)) only [hs, el, ↓aPre, aPost, oneW, allOne, retV, retVA, ↓reduceIte, reduceCtorEq, Nat.reduceAdd, Nat.reduceSub, Nat.reduceMul, Nat.reduceLT, Nat.reduceLeDiff, Nat.reduceEqDiff, Nat.reduceDiv, Nat.reduceMod, Nat.reducePow, Int.reduceAdd, Int.reduceSub, Int.reduceMul, Int.reduceLT, Int.reduceLE, Int.reduceEq, Int.reduceNe, Int.reducePow, Int.reduceToNat, Int.reduceNeg]
      exact post_eq rfl
theorem of_f_u32 (w h : Int) (l : List Int) (hl : l.length ≤ 140737488355328) (hn : ¬ (0 ≤ w ∧ 0 ≤ h ∧ w ≤ 40 ∧ h ≤ 40 ∧ 0 < l.length)) : Giv Try.prog 22 [.c (.int .i64 w), .c (.int .i64 h), .lst 1 (li .u32 l)] (retV [gD .u32 0 0 [], gD .i64 0 0 [], .c (.bool false)]) := by
  refine Giv.of mixed c22 (Nat.le_of_ble_eq_true rfl) ?_
  by_cases h1 : w < 0
  · simp -dsimp -implicitDefEqProofs (disch := first | omega | (simp only [List.length_append, List.length_cons, List.length_nil, List.length_take, List.length_drop]; omega)) only [a22, gD, ↓aPre, aPost, oneW, allOne, retV, retVA, ↓reduceIte, reduceCtorEq, Nat.reduceAdd, Nat.reduceSub, Nat.reduceMul, Nat.reduceLT, Nat.reduceLeDiff, Nat.reduceEqDiff, Nat.reduceDiv, Nat.reduceMod, Nat.reducePow, Int.reduceAdd, Int.reduceSub, Int.reduceMul, Int.reduceLT, Int.reduceLE, Int.reduceEq, Int.reduceNe, Int.reducePow, Int.reduceToNat, Int.reduceNeg]
    exact post_le (by repeat (first | exact leD.nil | exact leE.refl _ | exact leE.nil _ | refine leD.cons ?_ ?_ | refine leE.agg ?_))
  by_cases h2 : h < 0
  · simp -dsimp -implicitDefEqProofs (disch := first | omega | (simp only [List.length_append, List.length_cons, List.length_nil, List.length_take, List.length_drop]; omega)) only [a22, gD, ↓aPre, aPost, oneW, allOne, retV, retVA, ↓reduceIte, reduceCtorEq, Nat.reduceAdd, Nat.reduceSub, Nat.reduceMul, Nat.reduceLT, Nat.reduceLeDiff, Nat.reduceEqDiff, Nat.reduceDiv, Nat.reduceMod, Nat.reducePow, Int.reduceAdd, Int.reduceSub, Int.reduceMul, Int.reduceLT, Int.reduceLE, Int.reduceEq, Int.reduceNe, Int.reducePow, Int.reduceToNat, Int.reduceNeg]
    exact post_le (by repeat (first | exact leD.nil | exact leE.refl _ | exact leE.nil _ | refine leD.cons ?_ ?_ | refine leE.agg ?_))
  by_cases h3 : 40 < w
  · simp -dsimp -implicitDefEqProofs (disch := first | omega | (simp only [List.length_append, List.length_cons, List.length_nil, List.length_take, List.length_drop]; omega)) only [a22, gD, ↓aPre, aPost, oneW, allOne, retV, retVA, ↓reduceIte, reduceCtorEq, Nat.reduceAdd, Nat.reduceSub, Nat.reduceMul, Nat.reduceLT, Nat.reduceLeDiff, Nat.reduceEqDiff, Nat.reduceDiv, Nat.reduceMod, Nat.reducePow, Int.reduceAdd, Int.reduceSub, Int.reduceMul, Int.reduceLT, Int.reduceLE, Int.reduceEq, Int.reduceNe, Int.reducePow, Int.reduceToNat, Int.reduceNeg]
    exact post_le (by repeat (first | exact leD.nil | exact leE.refl _ | exact leE.nil _ | refine leD.cons ?_ ?_ | refine leE.agg ?_))
  by_cases h4 : 40 < h
  · simp -dsimp -implicitDefEqProofs (disch := first | omega | (simp only [List.length_append, List.length_cons, List.length_nil, List.length_take, List.length_drop]; omega)) only [a22, gD, ↓aPre, aPost, oneW, allOne, retV, retVA, ↓reduceIte, reduceCtorEq, Nat.reduceAdd, Nat.reduceSub, Nat.reduceMul, Nat.reduceLT, Nat.reduceLeDiff, Nat.reduceEqDiff, Nat.reduceDiv, Nat.reduceMod, Nat.reducePow, Int.reduceAdd, Int.reduceSub, Int.reduceMul, Int.reduceLT, Int.reduceLE, Int.reduceEq, Int.reduceNe, Int.reducePow, Int.reduceToNat, Int.reduceNeg]
    exact post_le (by repeat (first | exact leD.nil | exact leE.refl _ | exact leE.nil _ | refine leD.cons ?_ ?_ | refine leE.agg ?_))
  obtain rfl : l = [] := List.eq_nil_of_length_eq_zero (by omega)
  simp -dsimp -implicitDefEqProofs (disch := first | omega | (simp only [List.length_append, List.length_cons, List.length_nil, List.length_take, List.length_drop]; omega)) only [a22, gD, ↓aPre, aPost, oneW, allOne, retV, retVA, ↓reduceIte, reduceCtorEq, Nat.reduceAdd, Nat.reduceSub, Nat.reduceMul, Nat.reduceLT, Nat.reduceLeDiff, Nat.reduceEqDiff, Nat.reduceDiv, Nat.reduceMod, Nat.reducePow, Int.reduceAdd, Int.reduceSub, Int.reduceMul, Int.reduceLT, Int.reduceLE, Int.reduceEq, Int.reduceNe, Int.reducePow, Int.reduceToNat, Int.reduceNeg]
  exact post_le (by repeat (first | exact leD.nil | exact leE.refl _ | exact leE.nil _ | refine leD.cons ?_ ?_ | refine leE.agg ?_))
theorem of_t_u32 {w h : Nat} {l : List Int} (hw : w ≤ 40) (hh : h ≤ 40) (hl0 : 0 < l.length) (hl : l.length ≤ 140737488355328) (hI : In 4294967296 l) : Giv Try.prog 22 [.c (.int .i64 w), .c (.int .i64 h), .lst 1 (li .u32 l)] (retV [gD .u32 w h (cy l (w * h)), gD .i64 w h (cy l (w * h)), .c (.bool true)]) := by
  refine Giv.of mixed c22 (Nat.le_of_ble_eq_true rfl) ?_
  have hwh : w * h ≤ 1600 := Nat.le_trans (Nat.mul_le_mul hw hh) (by decide)
  obtain ⟨p, hp⟩ : ∃ p : Nat, p = w * h := ⟨_, rfl⟩
  have hp2 : (w : Int) * (h : Int) = p := by rw [hp, Int.natCast_mul]
  rw [← hp] at hwh ⊢
  have hl1 : ¬ (l.length : Int) = 0 := by omega
  simp -dsimp -implicitDefEqProofs (disch := first | omega | (simp only [List.length_append, List.length_cons, List.length_nil, List.length_take, List.length_drop]; omega)) only [a22, gD, hp2, ibeq_f hl1, hl1, ↓aPre, aPost, oneW, allOne, retV, retVA, ↓reduceIte, reduceCtorEq, Nat.reduceAdd, Nat.reduceSub, Nat.reduceMul, Nat.reduceLT, Nat.reduceLeDiff, Nat.reduceEqDiff, Nat.reduceDiv, Nat.reduceMod, Nat.reducePow, Int.reduceAdd, Int.reduceSub, Int.reduceMul, Int.reduceLT, Int.reduceLE, Int.reduceEq, Int.reduceNe, Int.reducePow, Int.reduceToNat, Int.reduceNeg]
  refine loop_nilBB 9 2 100 1 [.d (.c (.int .i64 w)), .d (.c (.int .i64 h)), .d (.c (.slice none 0 0))] 10 2 101 1 [.d (.c (.int .i64 w)), .d (.c (.int .i64 h)), .d (.c (.slice none 0 0))] (fun s => ∃ (i : Nat), i ≤ p ∧ s.tm 2 = .d (.lst 1 (li .u32 l)) ∧ s.tm 6 = .ptr 6 0 ∧ s.hp 6 = some (.box [.d (.c (.int .i64 0)), .d (.c (.int .i64 0)), .d (.c (.slice none 0 0))]) ∧ s.tm 7 = .ptr 7 0 ∧ s.hp 7 = some (.box [.d (.c (.int .i64 0)), .d (.c (.int .i64 0)), .d (.c (.slice none 0 0))]) ∧ s.tm 9 = .ptr 9 0 ∧ s.tm 10 = .ptr 10 0 ∧ s.tm 41 = .d (.c (.int .i64 p)) ∧ s.tm 42 = .d (.c (.int .i64 i)) ∧ s.hp 9 = some (.box [.d (.c (.int .i64 w)), .d (.c (.int .i64 h)), .sl 100 1 0 i]) ∧ s.hp 100 = some (.row 1 (li .u32 (cy l i))) ∧ s.hp 10 = some (.box [.d (.c (.int .i64 w)), .d (.c (.int .i64 h)), .sl 101 1 0 i]) ∧ s.hp 101 = some (.row 1 (li .i64 (cy l i)))) (fun s => p - (avN (s.tm 42)).toNat) ?_ rfl (by decide) (by decide) ?_ rfl (by decide) (by decide) ?_ ?_
  · simp -dsimp -implicitDefEqProofs (disch := first | omega | (simp only [List.length_append, List.length_cons, List.length_nil, List.length_take, List.length_drop]; omega)) only [↓aPre, aPost, oneW, allOne, retV, retVA, ↓reduceIte, reduceCtorEq, Nat.reduceAdd, Nat.reduceSub, Nat.reduceMul, Nat.reduceLT, Nat.reduceLeDiff, Nat.reduceEqDiff, Nat.reduceDiv, Nat.reduceMod, Nat.reducePow, Int.reduceAdd, Int.reduceSub, Int.reduceMul, Int.reduceLT, Int.reduceLE, Int.reduceEq, Int.reduceNe, Int.reducePow, Int.reduceToNat, Int.reduceNeg]
  · simp -dsimp -implicitDefEqProofs (disch := first | omega | (simp only [List.length_append, List.length_cons, List.length_nil, List.length_take, List.length_drop]; omega)) only [List.set_cons_succ, List.set_cons_zero, ↓aPre, aPost, oneW, allOne, retV, retVA, ↓reduceIte, reduceCtorEq, Nat.reduceAdd, Nat.reduceSub, Nat.reduceMul, Nat.reduceLT, Nat.reduceLeDiff, Nat.reduceEqDiff, Nat.reduceDiv, Nat.reduceMod, Nat.reducePow, Int.reduceAdd, Int.reduceSub, Int.reduceMul, Int.reduceLT, Int.reduceLE, Int.reduceEq, Int.reduceNe, Int.reducePow, Int.reduceToNat, Int.reduceNeg]
  · refine ⟨0, Nat.zero_le _, ?_⟩
    simp -dsimp -implicitDefEqProofs (disch := first | omega | (simp only [List.length_append, List.length_cons, List.length_nil, List.length_take, List.length_drop]; omega)) only [cy, tab, Int.natCast_zero, List.set_cons_succ, List.set_cons_zero, ↓aPre, aPost, oneW, allOne, retV, retVA, ↓reduceIte, reduceCtorEq, Nat.reduceAdd, Nat.reduceSub, Nat.reduceMul, Nat.reduceLT, Nat.reduceLeDiff, Nat.reduceEqDiff, Nat.reduceDiv, Nat.reduceMod, Nat.reducePow, Int.reduceAdd, Int.reduceSub, Int.reduceMul, Int.reduceLT, Int.reduceLE, Int.reduceEq, Int.reduceNe, Int.reducePow, Int.reduceToNat, Int.reduceNeg]
  rintro s ⟨i, hi, hs⟩
  have el : (cy l i).length = i := tab_len ..
  by_cases hlt : i < p
  · obtain ⟨q, hq⟩ : ∃ q : Nat, q = i % l.length := ⟨_, rfl⟩
    have hql : q < l.length := by rw [hq]; exact Nat.mod_lt _ hl0
    have hq2 : (i : Int) % (l.length : Int) = (q : Int) := by rw [hq, Int.natCast_emod]
    have hv := hI.get (by decide) q
    have et : cy l (i + 1) = cy l i ++ [l.getD q 0] := by rw [cy, tab, ← cy, ← hq]
    simp -dsimp -implicitDefEqProofs (disch := first | omega | (simp only [List.length_append, List.length_cons, List.length_nil, List.length_take, List.length_drop]; omega)) only [hs, hq2, ibeq_f hl1, hl1, el, ↓aPre, aPost, oneW, allOne, retV, retVA, ↓reduceIte, reduceCtorEq, Nat.reduceAdd, Nat.reduceSub, Nat.reduceMul, Nat.reduceLT, Nat.reduceLeDiff, Nat.reduceEqDiff, Nat.reduceDiv, Nat.reduceMod, Nat.reducePow, Int.reduceAdd, Int.reduceSub, Int.reduceMul, Int.reduceLT, Int.reduceLE, Int.reduceEq, Int.reduceNe, Int.reducePow, Int.reduceToNat, Int.reduceNeg]
    refine ⟨⟨?_, ?_⟩, ?_⟩
    all_goals
      refine round_of ⟨i + 1, by omega, ?_⟩ ?_
      · simp -dsimp -implicitDefEqProofs (disch := first | omega | (simp only [List.length_append, List.length_cons, List.length_nil, List.length_take, List.length_drop]; omega)) only [hs, hq2, ibeq_f hl1, hl1, el, et, ↓aPre, aPost, oneW, allOne, retV, retVA, ↓reduceIte, reduceCtorEq, Nat.reduceAdd, Nat.reduceSub, Nat.reduceMul, Nat.reduceLT, Nat.reduceLeDiff, Nat.reduceEqDiff, Nat.reduceDiv, Nat.reduceMod, Nat.reducePow, Int.reduceAdd, Int.reduceSub, Int.reduceMul, Int.reduceLT, Int.reduceLE, Int.reduceEq, Int.reduceNe, Int.reducePow, Int.reduceToNat, Int.reduceNeg]
      · simp -dsimp -implicitDefEqProofs (disch := first | omega | (simp only [List.length_append, List.length_cons, List.length_nil, List.length_take, List.length_drop]; omega)) only [hs, ↓aPre, aPost, oneW, allOne, retV, retVA, ↓reduceIte, reduceCtorEq, Nat.reduceAdd, Nat.reduceSub, Nat.reduceMul, Nat.reduceLT, Nat.reduceLeDiff, Nat.reduceEqDiff, Nat.reduceDiv, Nat.reduceMod, Nat.reducePow, Int.reduceAdd, Int.reduceSub, Int.reduceMul, Int.reduceLT, Int.reduceLE, Int.reduceEq, Int.reduceNe, Int.reducePow, Int.reduceToNat, Int.reduceNeg]
        omega
  · obtain rfl : i = p := by omega
    simp -dsimp -implicitDefEqProofs (disch := first | omega | (simp only [List.length_append, List.length_cons, List.length_nil, List.length_take, List.length_drop]; omega)) only [hs, el, ↓aPre, aPost, oneW, allOne, retV, retVA, ↓reduceIte, reduceCtorEq, Nat.reduceAdd, Nat.reduceSub, Nat.reduceMul, Nat.reduceLT, Nat.reduceLeDiff, Nat.reduceEqDiff, Nat.reduceDiv, Nat.reduceMod, Nat.reducePow, Int.reduceAdd, Int.reduceSub, Int.reduceMul, Int.reduceLT, Int.reduceLE, Int.reduceEq, Int.reduceNe, Int.reducePow, Int.reduceToNat, Int.reduceNeg]
    exact post_eq rfl
theorem levels_e_u16 {m : Int} {W H : Nat} {l : List Int} (r : Rt m W H l) (most : Int) (h0 : W = 0 ∨ H = 0 ∨ most < 1) : Giv Try.prog 15 [gD .u16 W H l, .c (.int .i64 most)] (retV [.lst 3 [], .c (.int .i64 1)]) := by
  refine Giv.of mixed c15 (Nat.le_of_ble_eq_true rfl) ?_
  have hr := right_u16 r
  by_cases hw : W = 0
  · subst hw
    simp -dsimp -implicitDefEqProofs (disch := first | omega | (simp only [List.length_append, List.length_cons, List.length_nil, List.length_take, List.length_drop]; omega)) only [a15, gD, ↓aPre, aPost, oneW, allOne, retV, retVA, ↓reduceIte, reduceCtorEq, Nat.reduceAdd, Nat.reduceSub, Nat.reduceMul, Nat.reduceLT, Nat.reduceLeDiff, Nat.reduceEqDiff, Nat.reduceDiv, Nat.reduceMod, Nat.reducePow, Int.reduceAdd, Int.reduceSub, Int.reduceMul, Int.reduceLT, Int.reduceLE, Int.reduceEq, Int.reduceNe, Int.reducePow, Int.reduceToNat, Int.reduceNeg]
    refine call_giv hr ?_
    simp -dsimp -implicitDefEqProofs (disch := first | omega | (simp only [List.length_append, List.length_cons, List.length_nil, List.length_take, List.length_drop]; omega)) only [gD, Int.natCast_zero, ↓aPre, aPost, oneW, allOne, retV, retVA, ↓reduceIte, reduceCtorEq, Nat.reduceAdd, Nat.reduceSub, Nat.reduceMul, Nat.reduceLT, Nat.reduceLeDiff, Nat.reduceEqDiff, Nat.reduceDiv, Nat.reduceMod, Nat.reducePow, Int.reduceAdd, Int.reduceSub, Int.reduceMul, Int.reduceLT, Int.reduceLE, Int.reduceEq, Int.reduceNe, Int.reducePow, Int.reduceToNat, Int.reduceNeg]
    exact post_le (by repeat (first | exact leD.nil | exact leE.refl _ | exact leE.nil _ | refine leD.cons ?_ ?_ | refine leE.agg ?_))
  have hw1 : ¬ (W : Int) = 0 := by omega
  by_cases hh : H = 0
  · subst hh
    simp -dsimp -implicitDefEqProofs (disch := first | omega | (simp only [List.length_append, List.length_cons, List.length_nil, List.length_take, List.length_drop]; omega)) only [a15, gD, ↓aPre, aPost, oneW, allOne, retV, retVA, ↓reduceIte, reduceCtorEq, Nat.reduceAdd, Nat.reduceSub, Nat.reduceMul, Nat.reduceLT, Nat.reduceLeDiff, Nat.reduceEqDiff, Nat.reduceDiv, Nat.reduceMod, Nat.reducePow, Int.reduceAdd, Int.reduceSub, Int.reduceMul, Int.reduceLT, Int.reduceLE, Int.reduceEq, Int.reduceNe, Int.reducePow, Int.reduceToNat, Int.reduceNeg]
    refine call_giv hr ?_
    simp -dsimp -implicitDefEqProofs (disch := first | omega | (simp only [List.length_append, List.length_cons, List.length_nil, List.length_take, List.length_drop]; omega)) only [gD, ibeq_f hw1, hw1, Int.natCast_zero, ↓aPre, aPost, oneW, allOne, retV, retVA, ↓reduceIte, reduceCtorEq, Nat.reduceAdd, Nat.reduceSub, Nat.reduceMul, Nat.reduceLT, Nat.reduceLeDiff, Nat.reduceEqDiff, Nat.reduceDiv, Nat.reduceMod, Nat.reducePow, Int.reduceAdd, Int.reduceSub, Int.reduceMul, Int.reduceLT, Int.reduceLE, Int.reduceEq, Int.reduceNe, Int.reducePow, Int.reduceToNat, Int.reduceNeg]
    exact post_le (by repeat (first | exact leD.nil | exact leE.refl _ | exact leE.nil _ | refine leD.cons ?_ ?_ | refine leE.agg ?_))
  have hh1 : ¬ (H : Int) = 0 := by omega
  have hm : most < 1 := by omega
  simp -dsimp -implicitDefEqProofs (disch := first | omega | (simp only [List.length_append, List.length_cons, List.length_nil, List.length_take, List.length_drop]; omega)) only [a15, gD, ↓aPre, aPost, oneW, allOne, retV, retVA, ↓reduceIte, reduceCtorEq, Nat.reduceAdd, Nat.reduceSub, Nat.reduceMul, Nat.reduceLT, Nat.reduceLeDiff, Nat.reduceEqDiff, Nat.reduceDiv, Nat.reduceMod, Nat.reducePow, Int.reduceAdd, Int.reduceSub, Int.reduceMul, Int.reduceLT, Int.reduceLE, Int.reduceEq, Int.reduceNe, Int.reducePow, Int.reduceToNat, Int.reduceNeg]
  refine call_giv hr ?_
  simp -dsimp -implicitDefEqProofs (disch := first | omega | (simp only [List.length_append, List.length_cons, List.length_nil, List.length_take, List.length_drop]; omega)) only [gD, ibeq_f hw1, hw1, ibeq_f hh1, hh1, ↓aPre, aPost, oneW, allOne, retV, retVA, ↓reduceIte, reduceCtorEq, Nat.reduceAdd, Nat.reduceSub, Nat.reduceMul, Nat.reduceLT, Nat.reduceLeDiff, Nat.reduceEqDiff, Nat.reduceDiv, Nat.reduceMod, Nat.reducePow, Int.reduceAdd, Int.reduceSub, Int.reduceMul, Int.reduceLT, Int.reduceLE, Int.reduceEq, Int.reduceNe, Int.reducePow, Int.reduceToNat, Int.reduceNeg]
  exact post_le (by repeat (first | exact leD.nil | exact leE.refl _ | exact leE.nil _ | refine leD.cons ?_ ?_ | refine leE.agg ?_))
theorem levels_u16 {W H : Nat} {l : List Int} (r : Rt 65536 W H l) (hW : 1 ≤ W) (hH : 1 ≤ H) (most : Int) (n : Nat) (hn6 : n ≤ 6) (hnm : (n : Int) + 1 ≤ most) (hbig : ∀ i, i < n → bigP W H i) (hend : (n : Int) + 1 = most ∨ ¬ bigP W H n) :
    Giv Try.prog 15 [gD .u16 W H l, .c (.int .i64 most)] (retV [.lst 3 (tabD (levD .u16 W H l) (n + 1)), .c (.int .i64 0)]) := by
  refine Giv.of mixed c15 (Nat.le_of_ble_eq_true rfl) ?_
  have hr := right_u16 r
  have hw1 : ¬ (W : Int) = 0 := by omega
  have hh1 : ¬ (H : Int) = 0 := by omega
  simp -dsimp -implicitDefEqProofs (disch := first | omega | (simp only [List.length_append, List.length_cons, List.length_nil, List.length_take, List.length_drop]; omega)) only [a15, gD, ↓aPre, aPost, oneW, allOne, retV, retVA, ↓reduceIte, reduceCtorEq, Nat.reduceAdd, Nat.reduceSub, Nat.reduceMul, Nat.reduceLT, Nat.reduceLeDiff, Nat.reduceEqDiff, Nat.reduceDiv, Nat.reduceMod, Nat.reducePow, Int.reduceAdd, Int.reduceSub, Int.reduceMul, Int.reduceLT, Int.reduceLE, Int.reduceEq, Int.reduceNe, Int.reducePow, Int.reduceToNat, Int.reduceNeg]
  refine call_giv hr ?_
  simp -dsimp -implicitDefEqProofs (disch := first | omega | (simp only [List.length_append, List.length_cons, List.length_nil, List.length_take, List.length_drop]; omega)) only [gD, ibeq_f hw1, hw1, ibeq_f hh1, hh1, ↓aPre, aPost, oneW, allOne, retV, retVA, ↓reduceIte, reduceCtorEq, Nat.reduceAdd, Nat.reduceSub, Nat.reduceMul, Nat.reduceLT, Nat.reduceLeDiff, Nat.reduceEqDiff, Nat.reduceDiv, Nat.reduceMod, Nat.reducePow, Int.reduceAdd, Int.reduceSub, Int.reduceMul, Int.reduceLT, Int.reduceLE, Int.reduceEq, Int.reduceNe, Int.reducePow, Int.reduceToNat, Int.reduceNeg]
  refine call_giv (clone_u16 r) ?_
  simp -dsimp -implicitDefEqProofs (disch := first | omega | (simp only [List.length_append, List.length_cons, List.length_nil, List.length_take, List.length_drop]; omega)) only [gD, ↓aPre, aPost, oneW, allOne, retV, retVA, ↓reduceIte, reduceCtorEq, Nat.reduceAdd, Nat.reduceSub, Nat.reduceMul, Nat.reduceLT, Nat.reduceLeDiff, Nat.reduceEqDiff, Nat.reduceDiv, Nat.reduceMod, Nat.reducePow, Int.reduceAdd, Int.reduceSub, Int.reduceMul, Int.reduceLT, Int.reduceLE, Int.reduceEq, Int.reduceNe, Int.reducePow, Int.reduceToNat, Int.reduceNeg]
  refine loop_of (fun s => ∃ (i : Nat), i ≤ n ∧ s.tm 1 = .d (.c (.int .i64 most)) ∧ s.tm 2 = .ptr 2 0 ∧ s.hp 2 = some (.box [.d (.c (.int .i64 (lw W i))), .d (.c (.int .i64 (lw H i))), .d (.lst 1 (li .u16 (ll W H l i)))]) ∧ s.tm 6 = .sl 27 3 0 (i + 1) ∧ s.hp 27 = some (.row 3 (tabD (levD .u16 W H l) (i + 1)))) (fun s => match s.tm 6 with | .sl _ _ _ k => n + 1 - k | _ => 0) ?_ ?_
  · refine ⟨0, Nat.zero_le _, ?_⟩
    simp -dsimp -implicitDefEqProofs (disch := first | omega | (simp only [List.length_append, List.length_cons, List.length_nil, List.length_take, List.length_drop]; omega)) only [tabD, levD, gD, lw, ll, List.nil_append, Nat.zero_add, ↓aPre, aPost, oneW, allOne, retV, retVA, ↓reduceIte, reduceCtorEq, Nat.reduceAdd, Nat.reduceSub, Nat.reduceMul, Nat.reduceLT, Nat.reduceLeDiff, Nat.reduceEqDiff, Nat.reduceDiv, Nat.reduceMod, Nat.reducePow, Int.reduceAdd, Int.reduceSub, Int.reduceMul, Int.reduceLT, Int.reduceLE, Int.reduceEq, Int.reduceNe, Int.reducePow, Int.reduceToNat, Int.reduceNeg]
  rintro s ⟨i, hi, hs⟩
  have el := tabD_len (levD .u16 W H l) (i + 1)
  by_cases hlt : i < n
  · have hb := hbig i hlt
    have hlm : (i : Int) + 1 < most := by omega
    have hhv : Giv Try.prog 27 [gD .u16 (lw W i) (lw H i) (ll W H l i)] (retV [gD .u16 (lw W (i + 1)) (lw H (i + 1)) (ll W H l (i + 1)), .c (.int .i64 0)]) := halve_u16 (r.lev (by decide) i) (lw_pos hW i) (lw_pos hH i)
    have et : tabD (levD .u16 W H l) (i + 1 + 1) = tabD (levD .u16 W H l) (i + 1) ++ [.agg [.c (.int .i64 (lw W (i + 1))), .c (.int .i64 (lw H (i + 1))), .lst 1 (li .u16 (ll W H l (i + 1)))]] := rfl
    unfold bigP at hb
    by_cases hb1 : 1 < lw W i
    · simp -dsimp -implicitDefEqProofs (disch := first | omega | (simp only [List.length_append, List.length_cons, List.length_nil, List.length_take, List.length_drop]; omega)) only [hs, ↓aPre, aPost, oneW, allOne, retV, retVA, ↓reduceIte, reduceCtorEq, Nat.reduceAdd, Nat.reduceSub, Nat.reduceMul, Nat.reduceLT, Nat.reduceLeDiff, Nat.reduceEqDiff, Nat.reduceDiv, Nat.reduceMod, Nat.reducePow, Int.reduceAdd, Int.reduceSub, Int.reduceMul, Int.reduceLT, Int.reduceLE, Int.reduceEq, Int.reduceNe, Int.reducePow, Int.reduceToNat, Int.reduceNeg]
      refine call_giv hhv ?_
      simp -dsimp -implicitDefEqProofs (disch := first | omega | (simp only [List.length_append, List.length_cons, List.length_nil, List.length_take, List.length_drop]; omega)) only [hs, gD, el, ↓aPre, aPost, oneW, allOne, retV, retVA, ↓reduceIte, reduceCtorEq, Nat.reduceAdd, Nat.reduceSub, Nat.reduceMul, Nat.reduceLT, Nat.reduceLeDiff, Nat.reduceEqDiff, Nat.reduceDiv, Nat.reduceMod, Nat.reducePow, Int.reduceAdd, Int.reduceSub, Int.reduceMul, Int.reduceLT, Int.reduceLE, Int.reduceEq, Int.reduceNe, Int.reducePow, Int.reduceToNat, Int.reduceNeg]
      refine round_of ⟨i + 1, by omega, ?_⟩ ?_
      · simp -dsimp -implicitDefEqProofs (disch := first | omega | (simp only [List.length_append, List.length_cons, List.length_nil, List.length_take, List.length_drop]; omega)) only [hs, gD, el, et, ↓aPre, aPost, oneW, allOne, retV, retVA, ↓reduceIte, reduceCtorEq, Nat.reduceAdd, Nat.reduceSub, Nat.reduceMul, Nat.reduceLT, Nat.reduceLeDiff, Nat.reduceEqDiff, Nat.reduceDiv, Nat.reduceMod, Nat.reducePow, Int.reduceAdd, Int.reduceSub, Int.reduceMul, Int.reduceLT, Int.reduceLE, Int.reduceEq, Int.reduceNe, Int.reducePow, Int.reduceToNat, Int.reduceNeg]
      · simp -dsimp -implicitDefEqProofs (disch := first | omega | (simp only [List.length_append, List.length_cons, List.length_nil, List.length_take, List.length_drop]; omega)) only [hs, ↓aPre, aPost, oneW, allOne, retV, retVA, ↓reduceIte, reduceCtorEq, Nat.reduceAdd, Nat.reduceSub, Nat.reduceMul, Nat.reduceLT, Nat.reduceLeDiff, Nat.reduceEqDiff, Nat.reduceDiv, Nat.reduceMod, Nat.reducePow, Int.reduceAdd, Int.reduceSub, Int.reduceMul, Int.reduceLT, Int.reduceLE, Int.reduceEq, Int.reduceNe, Int.reducePow, Int.reduceToNat, Int.reduceNeg]
        omega
    · have hb2 : 1 < lw H i := by omega
      simp -dsimp -implicitDefEqProofs (disch := first | omega | (simp only [List.length_append, List.length_cons, List.length_nil, List.length_take, List.length_drop]; omega)) only [hs, ↓aPre, aPost, oneW, allOne, retV, retVA, ↓reduceIte, reduceCtorEq, Nat.reduceAdd, Nat.reduceSub, Nat.reduceMul, Nat.reduceLT, Nat.reduceLeDiff, Nat.reduceEqDiff, Nat.reduceDiv, Nat.reduceMod, Nat.reducePow, Int.reduceAdd, Int.reduceSub, Int.reduceMul, Int.reduceLT, Int.reduceLE, Int.reduceEq, Int.reduceNe, Int.reducePow, Int.reduceToNat, Int.reduceNeg]
      refine call_giv hhv ?_
      simp -dsimp -implicitDefEqProofs (disch := first | omega | (simp only [List.length_append, List.length_cons, List.length_nil, List.length_take, List.length_drop]; omega)) only [hs, gD, el, ↓aPre, aPost, oneW, allOne, retV, retVA, ↓reduceIte, reduceCtorEq, Nat.reduceAdd, Nat.reduceSub, Nat.reduceMul, Nat.reduceLT, Nat.reduceLeDiff, Nat.reduceEqDiff, Nat.reduceDiv, Nat.reduceMod, Nat.reducePow, Int.reduceAdd, Int.reduceSub, Int.reduceMul, Int.reduceLT, Int.reduceLE, Int.reduceEq, Int.reduceNe, Int.reducePow, Int.reduceToNat, Int.reduceNeg]
      refine round_of ⟨i + 1, by omega, ?_⟩ ?_
      · simp -dsimp -implicitDefEqProofs (disch := first | omega | (simp only [List.length_append, List.length_cons, List.length_nil, List.length_take, List.length_drop]; omega)) only [hs, gD, el, et, ↓aPre, aPost, oneW, allOne, retV, retVA, ↓reduceIte, reduceCtorEq, Nat.reduceAdd, Nat.reduceSub, Nat.reduceMul, Nat.reduceLT, Nat.reduceLeDiff, Nat.reduceEqDiff, Nat.reduceDiv, Nat.reduceMod, Nat.reducePow, Int.reduceAdd, Int.reduceSub, Int.reduceMul, Int.reduceLT, Int.reduceLE, Int.reduceEq, Int.reduceNe, Int.reducePow, Int.reduceToNat, Int.reduceNeg]
      · simp -dsimp -implicitDefEqProofs (disch := first | omega | (simp only [List.length_append, List.length_cons, List.length_nil, List.length_take, List.length_drop]; omega)) only [hs, ↓aPre, aPost, oneW, allOne, retV, retVA, ↓reduceIte, reduceCtorEq, Nat.reduceAdd, Nat.reduceSub, Nat.reduceMul, Nat.reduceLT, Nat.reduceLeDiff, Nat.reduceEqDiff, Nat.reduceDiv, Nat.reduceMod, Nat.reducePow, Int.reduceAdd, Int.reduceSub, Int.reduceMul, Int.reduceLT, Int.reduceLE, Int.reduceEq, Int.reduceNe, Int.reducePow, Int.reduceToNat, Int.reduceNeg]
        omega
  · obtain rfl : i = n := by omega
    by_cases hlm : (i : Int) + 1 < most
    · have hb : ¬ bigP W H i := hend.resolve_left (by omega)
      unfold bigP at hb
      have hb1 : ¬ 1 < lw W i := by omega
      have hb2 : ¬ 1 < lw H i := by omega
      simp -dsimp -implicitDefEqProofs (disch := first | omega | (simp only [List.length_append, List.length_cons, List.length_nil, List.length_take, List.length_drop]; omega)) only [hs, el, ↓aPre, aPost, oneW, allOne, retV, retVA, ↓reduceIte, reduceCtorEq, Nat.reduceAdd, Nat.reduceSub, Nat.reduceMul, Nat.reduceLT, Nat.reduceLeDiff, Nat.reduceEqDiff, Nat.reduceDiv, Nat.reduceMod, Nat.reducePow, Int.reduceAdd, Int.reduceSub, Int.reduceMul, Int.reduceLT, Int.reduceLE, Int.reduceEq, Int.reduceNe, Int.reducePow, Int.reduceToNat, Int.reduceNeg]
      exact post_eq rfl
    · simp -dsimp -implicitDefEqProofs (disch := first | omega | (simp only [List.length_append, List.length_cons, List.length_nil, List.length_take, List.length_drop]; omega)) only [hs, el, ↓aPre, aPost, oneW, allOne, retV, retVA, ↓reduceIte, reduceCtorEq, Nat.reduceAdd, Nat.reduceSub, Nat.reduceMul, Nat.reduceLT, Nat.reduceLeDiff, Nat.reduceEqDiff, Nat.reduceDiv, Nat.reduceMod, Nat.reducePow, Int.reduceAdd, Int.reduceSub, Int.reduceMul, Int.reduceLT, Int.reduceLE, Int.reduceEq, Int.reduceNe, Int.reducePow, Int.reduceToNat, Int.reduceNeg]
      exact post_eq rfl
theorem of_f_u16 (w h : Int) (l : List Int) (hl : l.length ≤ 140737488355328) (hn : ¬ (0 ≤ w ∧ 0 ≤ h ∧ w ≤ 40 ∧ h ≤ 40 ∧ 0 < l.length)) : Giv Try.prog 13 [.c (.int .i64 w), .c (.int .i64 h), .lst 1 (li .u16 l)] (retV [gD .u16 0 0 [], gD .i64 0 0 [], .c (.bool false)]) := by
  refine Giv.of mixed c13 (Nat.le_of_ble_eq_true rfl) ?_
  by_cases h1 : w < 0
  · simp -dsimp -implicitDefEqProofs (disch := first | omega | (simp only [List.length_append, List.length_cons, List.length_nil, List.length_take, List.length_drop]; omega)) only [a13, gD, ↓aPre, aPost, oneW, allOne, retV, retVA, ↓reduceIte, reduceCtorEq, Nat.reduceAdd, Nat.reduceSub, Nat.reduceMul, Nat.reduceLT, Nat.reduceLeDiff, Nat.reduceEqDiff, Nat.reduceDiv, Nat.reduceMod, Nat.reducePow, Int.reduceAdd, Int.reduceSub, Int.reduceMul, Int.reduceLT, Int.reduceLE, Int.reduceEq, Int.reduceNe, Int.reducePow, Int.reduceToNat, Int.reduceNeg]
    exact post_le (by repeat (first | exact leD.nil | exact leE.refl _ | exact leE.nil _ | refine leD.cons ?_ ?_ | refine leE.agg ?_))
  by_cases h2 : h < 0
  · simp -dsimp -implicitDefEqProofs (disch := first | omega | (simp only [List.length_append, List.length_cons, List.length_nil, List.length_take, List.length_drop]; omega)) only [a13, gD, ↓aPre, aPost, oneW, allOne, retV, retVA, ↓reduceIte, reduceCtorEq, Nat.reduceAdd, Nat.reduceSub, Nat.reduceMul, Nat.reduceLT, Nat.reduceLeDiff, Nat.reduceEqDiff, Nat.reduceDiv, Nat.reduceMod, Nat.reducePow, Int.reduceAdd, Int.reduceSub, Int.reduceMul, Int.reduceLT, Int.reduceLE, Int.reduceEq, Int.reduceNe, Int.reducePow, Int.reduceToNat, Int.reduceNeg]
    exact post_le (by repeat (first | exact leD.nil | exact leE.refl _ | exact leE.nil _ | refine leD.cons ?_ ?_ | refine leE.agg ?_))
  by_cases h3 : 40 < w
  · simp -dsimp -implicitDefEqProofs (disch := first | omega | (simp only [List.length_append, List.length_cons, List.length_nil, List.length_take, List.length_drop]; omega)) only [a13, gD, ↓aPre, aPost, oneW, allOne, retV, retVA, ↓reduceIte, reduceCtorEq, Nat.reduceAdd, Nat.reduceSub, Nat.reduceMul, Nat.reduceLT, Nat.reduceLeDiff, Nat.reduceEqDiff, Nat.reduceDiv, Nat.reduceMod, Nat.reducePow, Int.reduceAdd, Int.reduceSub, Int.reduceMul, Int.reduceLT, Int.reduceLE, Int.reduceEq, Int.reduceNe, Int.reducePow, Int.reduceToNat, Int.reduceNeg]
    exact post_le (by repeat (first | exact leD.nil | exact leE.refl _ | exact leE.nil _ | refine leD.cons ?_ ?_ | refine leE.agg ?_))
  by_cases h4 : 40 < h
  · simp -dsimp -implicitDefEqProofs (disch := first | omega | (simp only [List.length_append, List.length_cons, List.length_nil, List.length_take, List.length_drop]; omega)) only [a13, gD, ↓aPre, aPost, oneW, allOne, retV, retVA, ↓reduceIte, reduceCtorEq, Nat.reduceAdd, Nat.reduceSub, Nat.reduceMul, Nat.reduceLT, Nat.reduceLeDiff, Nat.reduceEqDiff, Nat.reduceDiv, Nat.reduceMod, Nat.reducePow, Int.reduceAdd, Int.reduceSub, Int.reduceMul, Int.reduceLT, Int.reduceLE, Int.reduceEq, Int.reduceNe, Int.reducePow, Int.reduceToNat, Int.reduceNeg]
    exact post_le (by repeat (first | exact leD.nil | exact leE.refl _ | exact leE.nil _ | refine leD.cons ?_ ?_ | refine leE.agg ?_))
  obtain rfl : l = [] := List.eq_nil_of_length_eq_zero (by omega)
  simp -dsimp -implicitDefEqProofs (disch := first | omega | (simp only [List.length_append, List.length_cons, List.length_nil, List.length_take, List.length_drop]; omega)) only [a13, gD, ↓aPre, aPost, oneW, allOne, retV, retVA, ↓reduceIte, reduceCtorEq, Nat.reduceAdd, Nat.reduceSub, Nat.reduceMul, Nat.reduceLT, Nat.reduceLeDiff, Nat.reduceEqDiff, Nat.reduceDiv, Nat.reduceMod, Nat.reducePow, Int.reduceAdd, Int.reduceSub, Int.reduceMul, Int.reduceLT, Int.reduceLE, Int.reduceEq, Int.reduceNe, Int.reducePow, Int.reduceToNat, Int.reduceNeg]
  exact post_le (by repeat (first | exact leD.nil | exact leE.refl _ | exact leE.nil _ | refine leD.cons ?_ ?_ | refine leE.agg ?_))
theorem of_t_u16 {w h : Nat} {l : List Int} (hw : w ≤ 40) (hh : h ≤ 40) (hl0 : 0 < l.length) (hl : l.length ≤ 140737488355328) (hI : In 65536 l) : Giv Try.prog 13 [.c (.int .i64 w), .c (.int .i64 h), .lst 1 (li .u16 l)] (retV [gD .u16 w h (cy l (w * h)), gD .i64 w h (cy l (w * h)), .c (.bool true)]) := by
  refine Giv.of mixed c13 (Nat.le_of_ble_eq_true rfl) ?_
  have hwh : w * h ≤ 1600 := Nat.le_trans (Nat.mul_le_mul hw hh) (by decide)
  obtain ⟨p, hp⟩ : ∃ p : Nat, p = w * h := ⟨_, rfl⟩
  have hp2 : (w : Int) * (h : Int) = p := by rw [hp, Int.natCast_mul]
  rw [← hp] at hwh ⊢
  have hl1 : ¬ (l.length : Int) = 0 := by omega
  simp -dsimp -implicitDefEqProofs (disch := first | omega | (simp only [List.length_append, List.length_cons, List.length_nil, List.length_take, List.length_drop]; omega)) only [a13, gD, hp2, ibeq_f hl1, hl1, ↓aPre, aPost, oneW, allOne, retV, retVA, ↓reduceIte, reduceCtorEq, Nat.reduceAdd, Nat.reduceSub, Nat.reduceMul, Nat.reduceLT, Nat.reduceLeDiff, Nat.reduceEqDiff, Nat.reduceDiv, Nat.reduceMod, Nat.reducePow, Int.reduceAdd, Int.reduceSub, Int.reduceMul, Int.reduceLT, Int.reduceLE, Int.reduceEq, Int.reduceNe, Int.reducePow, Int.reduceToNat, Int.reduceNeg]
  refine loop_nilBB 9 2 100 1 [.d (.c (.int .i64 w)), .d (.c (.int .i64 h)), .d (.c (.slice none 0 0))] 10 2 101 1 [.d (.c (.int .i64 w)), .d (.c (.int .i64 h)), .d (.c (.slice none 0 0))] (fun s => ∃ (i : Nat), i ≤ p ∧ s.tm 2 = .d (.lst 1 (li .u16 l)) ∧ s.tm 6 = .ptr 6 0 ∧ s.hp 6 = some (.box [.d (.c (.int .i64 0)), .d (.c (.int .i64 0)), .d (.c (.slice none 0 0))]) ∧ s.tm 7 = .ptr 7 0 ∧ s.hp 7 = some (.box [.d (.c (.int .i64 0)), .d (.c (.int .i64 0)), .d (.c (.slice none 0 0))]) ∧ s.tm 9 = .ptr 9 0 ∧ s.tm 10 = .ptr 10 0 ∧ s.tm 41 = .d (.c (.int .i64 p)) ∧ s.tm 42 = .d (.c (.int .i64 i)) ∧ s.hp 9 = some (.box [.d (.c (.int .i64 w)), .d (.c (.int .i64 h)), .sl 100 1 0 i]) ∧ s.hp 100 = some (.row 1 (li .u16 (cy l i))) ∧ s.hp 10 = some (.box [.d (.c (.int .i64 w)), .d (.c (.int .i64 h)), .sl 101 1 0 i]) ∧ s.hp 101 = some (.row 1 (li .i64 (cy l i)))) (fun s => p - (avN (s.tm 42)).toNat) ?_ rfl (by decide) (by decide) ?_ rfl (by decide) (by decide) ?_ ?_
  · simp -dsimp -implicitDefEqProofs (disch := first | omega | (simp only [List.length_append, List.length_cons, List.length_nil, List.length_take, List.length_drop]; omega)) only [↓aPre, aPost, oneW, allOne, retV, retVA, ↓reduceIte, reduceCtorEq, Nat.reduceAdd, Nat.reduceSub, Nat.reduceMul, Nat.reduceLT, Nat.reduceLeDiff, Nat.reduceEqDiff, Nat.reduceDiv, Nat.reduceMod, Nat.reducePow, Int.reduceAdd, Int.reduceSub, Int.reduceMul, Int.reduceLT, Int.reduceLE, Int.reduceEq, Int.reduceNe, Int.reducePow, Int.reduceToNat, Int.reduceNeg]
  · simp -dsimp -implicitDefEqProofs (disch := first | omega | (simp only [List.length_append, List.length_cons, List.length_nil, List.length_take, List.length_drop]; omega)) only [List.set_cons_succ, List.set_cons_zero, ↓aPre, aPost, oneW, allOne, retV, retVA, ↓reduceIte, reduceCtorEq, Nat.reduceAdd, Nat.reduceSub, Nat.reduceMul, Nat.reduceLT, Nat.reduceLeDiff, Nat.reduceEqDiff, Nat.reduceDiv, Nat.reduceMod, Nat.reducePow, Int.reduceAdd, Int.reduceSub, Int.reduceMul, Int.reduceLT, Int.reduceLE, Int.reduceEq, Int.reduceNe, Int.reducePow, Int.reduceToNat, Int.reduceNeg]
  · refine ⟨0, Nat.zero_le _, ?_⟩
    simp -dsimp -implicitDefEqProofs (disch := first | omega | (simp only [List.length_append, List.length_cons, List.length_nil, List.length_take, List.length_drop]; omega)) only [cy, tab, Int.natCast_zero, List.set_cons_succ, List.set_cons_zero, ↓aPre, aPost, oneW, allOne, retV, retVA, ↓reduceIte, reduceCtorEq, Nat.reduceAdd, Nat.reduceSub, Nat.reduceMul, Nat.reduceLT, Nat.reduceLeDiff, Nat.reduceEqDiff, Nat.reduceDiv, Nat.reduceMod, Nat.reducePow, Int.reduceAdd, Int.reduceSub, Int.reduceMul, Int.reduceLT, Int.reduceLE, Int.reduceEq, Int.reduceNe, Int.reducePow, Int.reduceToNat, Int.reduceNeg]
  rintro s ⟨i, hi, hs⟩
  have el : (cy l i).length = i := tab_len ..
  by_cases hlt : i < p
  · obtain ⟨q, hq⟩ : ∃ q : Nat, q = i % l.length := ⟨_, rfl⟩
    have hql : q < l.length := by rw [hq]; exact Nat.mod_lt _ hl0
    have hq2 : (i : Int) % (l.length : Int) = (q : Int) := by rw [hq, Int.natCast_emod]
    have hv := hI.get (by decide) q
    have et : cy l (i + 1) = cy l i ++ [l.getD q 0] := by rw [cy, tab, ← cy, ← hq]
    simp -dsimp -implicitDefEqProofs (disch := first | omega | (simp only [List.length_append, List.length_cons, List.length_nil, List.length_take, List.length_drop]; omega)) only [hs, hq2, ibeq_f hl1, hl1, el, ↓aPre, aPost, oneW, allOne, retV, retVA, ↓reduceIte, reduceCtorEq, Nat.reduceAdd, Nat.reduceSub, Nat.reduceMul, Nat.reduceLT, Nat.reduceLeDiff, Nat.reduceEqDiff, Nat.reduceDiv, Nat.reduceMod, Nat.reducePow, Int.reduceAdd, Int.reduceSub, Int.reduceMul, Int.reduceLT, Int.reduceLE, Int.reduceEq, Int.reduceNe, Int.reducePow, Int.reduceToNat, Int.reduceNeg]
    refine ⟨⟨?_, ?_⟩, ?_⟩
    all_goals
      refine round_of ⟨i + 1, by omega, ?_⟩ ?_
      · simp -dsimp -implicitDefEqProofs (disch := first | omega | (simp only [List.length_append, List.length_cons, List.length_nil, List.length_take, List.length_drop]; omega)) only [hs, hq2, ibeq_f hl1, hl1, el, et, ↓aPre, aPost, oneW, allOne, retV, retVA, ↓reduceIte, reduceCtorEq, Nat.reduceAdd, Nat.reduceSub, Nat.reduceMul, Nat.reduceLT, Nat.reduceLeDiff, Nat.reduceEqDiff, Nat.reduceDiv, Nat.reduceMod, Nat.reducePow, Int.reduceAdd, Int.reduceSub, Int.reduceMul, Int.reduceLT, Int.reduceLE, Int.reduceEq, Int.reduceNe, Int.reducePow, Int.reduceToNat, Int.reduceNeg]
      · simp -dsimp -implicitDefEqProofs (disch := first | omega | (simp only [List.length_append, List.length_cons, List.length_nil, List.length_take, List.length_drop]; omega)) only [hs, ↓aPre, aPost, oneW, allOne, retV, retVA, ↓reduceIte, reduceCtorEq, Nat.reduceAdd, Nat.reduceSub, Nat.reduceMul, Nat.reduceLT, Nat.reduceLeDiff, Nat.reduceEqDiff, Nat.reduceDiv, Nat.reduceMod, Nat.reducePow, Int.reduceAdd, Int.reduceSub, Int.reduceMul, Int.reduceLT, Int.reduceLE, Int.reduceEq, Int.reduceNe, Int.reducePow, Int.reduceToNat, Int.reduceNeg]
        omega
  · obtain rfl : i = p := by omega
    simp -dsimp -implicitDefEqProofs (disch := first | omega | (simp only [List.length_append, List.length_cons, List.length_nil, List.length_take, List.length_drop]; omega)) only [hs, el, ↓aPre, aPost, oneW, allOne, retV, retVA, ↓reduceIte, reduceCtorEq, Nat.reduceAdd, Nat.reduceSub, Nat.reduceMul, Nat.reduceLT, Nat.reduceLeDiff, Nat.reduceEqDiff, Nat.reduceDiv, Nat.reduceMod, Nat.reducePow, Int.reduceAdd, Int.reduceSub, Int.reduceMul, Int.reduceLT, Int.reduceLE, Int.reduceEq, Int.reduceNe, Int.reducePow, Int.reduceToNat, Int.reduceNeg]
    exact post_eq rfl
end Go.Proofs.Ytgjkenadiamgfaa
