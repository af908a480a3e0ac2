/- The texts of any values; what is joined is split, and the other way: the law's walk and its plain law. No further condition. -/
import Derived.Test.YtfighiceodplnaaLOf
set_option linter.unusedSimpArgs false
set_option linter.unusedVariables false
set_option maxRecDepth 8000
set_option maxHeartbeats 4000000
namespace Go.Proofs.Ytfighiceodplnaa
open Go.Eng Go.RowKit
/-- texts as lists of numbers -/
def sl (ss : List (List Int)) : List D := ss.map fun b => .c (.string (strOfNums b))
theorem sl_len (ss : List (List Int)) : (sl ss).length = ss.length := List.length_map ..
theorem sl_app (a b : List (List Int)) : sl a ++ sl b = sl (a ++ b) := (List.map_append ..).symm
theorem sl_one (b : List Int) : [D.c (.string (strOfNums b))] = sl [b] := rfl
theorem sl_get (ss : List (List Int)) {k : Nat} (h : k < ss.length) : (sl ss).getD k default = .c (.string (strOfNums (ss.getD k []))) := by
  simp only [sl, List.getD, List.getElem?_map, List.getElem?_eq_getElem h, Option.map_some, Option.getD_some]
def stp (st : List (List Int) × List Int) (v : Int) : List (List Int) × List Int := if v = 0 then (st.1 ++ [st.2], []) else (st.1, st.2 ++ [v])
def spK (l : List Int) : Nat → List (List Int) × List Int
  | 0 => ([], [])
  | k + 1 => stp (spK l k) (l.getD k 0)
theorem spK_fold (l : List Int) : ∀ k, k ≤ l.length → spK l k = (l.take k).foldl stp ([], [])
  | 0, _ => by rw [List.take_zero]; rfl
  | k + 1, h => by rw [spK, spK_fold l k (by omega), take_at (by omega), List.foldl_append]; rfl
theorem spK_all (l : List Int) : spK l l.length = l.foldl stp ([], []) := by
  rw [spK_fold l _ (Nat.le_refl _), List.take_length]
def tot : List (List Int) → Nat
  | [] => 0
  | b :: ss => b.length + 1 + tot ss
theorem tot_app : ∀ a b, tot (a ++ b) = tot a + tot b
  | [], b => by simp [tot]
  | x :: a, b => by rw [List.cons_append, tot, tot, tot_app a b]; omega
def okB (b : List Int) : Prop := ∀ z ∈ b, 0 < z ∧ z ≤ 127
theorem okB.bytes {b : List Int} (h : okB b) : Bytes b := fun z hz => by have := h z hz; omega
theorem spK_inv {l : List Int} (h : ∀ j, j < l.length → 0 ≤ l.getD j 0 ∧ l.getD j 0 ≤ 127) : ∀ k, k ≤ l.length → tot (spK l k).1 + (spK l k).2.length = k ∧ (∀ b ∈ (spK l k).1, okB b) ∧ okB (spK l k).2
  | 0, _ => ⟨rfl, (by intro b hb; cases hb), (by intro z hz; cases hz)⟩
  | k + 1, hk => by
    obtain ⟨h1, h2, h3⟩ := spK_inv h k (by omega)
    have hz := h k (by omega)
    rw [spK, stp]
    by_cases c : l.getD k 0 = 0
    · rw [if_pos c]
      refine ⟨?_, ?_, (by intro z hz; cases hz)⟩
      · simp only [tot_app, tot, List.length_nil]; omega
      · intro b hb
        rcases List.mem_append.1 hb with hb | hb
        · exact h2 b hb
        · rw [List.mem_singleton.1 hb]; exact h3
    · rw [if_neg c]
      refine ⟨?_, h2, ?_⟩
      · simp only [List.length_append, List.length_singleton]; omega
      · intro z hz'
        rcases List.mem_append.1 hz' with hz' | hz'
        · exact h3 z hz'
        · rw [List.mem_singleton.1 hz']; omega
def lowP (l : List Int) : Prop := ∀ j, j < l.length → l.getD j 0 ≤ 127
instance (l : List Int) : Decidable (lowP l) := by unfold lowP; infer_instance
def splitD (l : List Int) : List D := if lowP l then (if (spK l l.length).2 = [] then [.lst 1 (sl (spK l l.length).1), .c (.int .i64 0)] else [.lst 1 [], .c (.int .i64 2)]) else [.lst 1 [], .c (.int .i64 3)]
theorem lenb {l : List Int} (h : In 18446744073709551616 l) (hl : ∀ j, j < l.length → l.getD j 0 ≤ 127) : ∀ j, j < l.length → 0 ≤ l.getD j 0 ∧ l.getD j 0 ≤ 127 := fun j hj => ⟨(h.get (by decide) j).1, hl j hj⟩
theorem spK_b (l : List Int) : ∀ k, (spK l k).1.length + (spK l k).2.length ≤ k
  | 0 => Nat.le_refl _
  | k + 1 => by
    have := spK_b l k
    rw [spK, stp]
    split
    · simp only [List.length_append, List.length_singleton, List.length_nil]; omega
    · simp only [List.length_append, List.length_singleton]; omega
theorem split_giv (l : List Int) (hl : l.length ≤ 100000) (hU : In 18446744073709551616 l) : Giv Try.prog 11 [.lst 1 (li .u64 l)] (retV (splitD l)) := by
  refine Giv.of mixed c11 (Nat.le_of_ble_eq_true rfl) ?_
  simp -dsimp -implicitDefEqProofs (disch := first | omega | (simp only [List.length_append, List.length_cons, List.length_nil, List.length_take, List.length_drop]; omega)) only [a11, ↓aPre, aPost, oneW, allOne, retV, retVA, ↓reduceIte, reduceCtorEq, Nat.reduceAdd, Nat.reduceSub, Nat.reduceMul, Nat.reduceLT, Nat.reduceLeDiff, Nat.reduceEqDiff, Nat.reduceDiv, Nat.reduceMod, Nat.reducePow, Int.reduceAdd, Int.reduceSub, Int.reduceMul, Int.reduceLT, Int.reduceLE, Int.reduceEq, Int.reduceNe, Int.reducePow, Int.reduceToNat, Int.reduceNeg]
  refine loop_nil 4 100 1 (fun s => ∃ (k : Nat), k ≤ l.length ∧ (∀ j, j < k → l.getD j 0 ≤ 127) ∧ s.tm 10 = .d (.c (.int .i64 k)) ∧ s.tm 9 = .d (.c (.int .i64 l.length)) ∧ s.tm 8 = .d (.lst 1 (li .u64 l)) ∧ s.tm 4 = .sl 100 1 0 (spK l k).1.length ∧ s.hp 100 = some (.row 1 (sl (spK l k).1)) ∧ ((s.tm 5 = .d (.c (.slice none 0 0)) ∧ (spK l k).2 = []) ∨ (s.tm 5 = .sl 18 1 0 (spK l k).2.length ∧ s.hp 18 = some (.row 1 (li .u8 (spK l k).2)) ∧ ¬ (spK l k).2.length = 0))) (fun s => l.length - (avN (s.tm 10)).toNat) ?_ (by decide) ?_ ?_
  · simp -dsimp -implicitDefEqProofs (disch := first | omega | (simp only [List.length_append, List.length_cons, List.length_nil, List.length_take, List.length_drop]; omega)) only [↓aPre, aPost, oneW, allOne, retV, retVA, ↓reduceIte, reduceCtorEq, Nat.reduceAdd, Nat.reduceSub, Nat.reduceMul, Nat.reduceLT, Nat.reduceLeDiff, Nat.reduceEqDiff, Nat.reduceDiv, Nat.reduceMod, Nat.reducePow, Int.reduceAdd, Int.reduceSub, Int.reduceMul, Int.reduceLT, Int.reduceLE, Int.reduceEq, Int.reduceNe, Int.reducePow, Int.reduceToNat, Int.reduceNeg]
  · refine ⟨0, Nat.zero_le _, fun j hj => by omega, ?_⟩
    have e0 : (spK l 0).1 = [] := rfl
    have e1 : sl ([] : List (List Int)) = [] := rfl
    refine ⟨?_, ?_, ?_, ?_, ?_, .inl ⟨?_, rfl⟩⟩
    all_goals
      simp -dsimp -implicitDefEqProofs (disch := first | omega | (simp only [List.length_append, List.length_cons, List.length_nil, List.length_take, List.length_drop]; omega)) only [e0, e1, Int.natCast_zero, ↓aPre, aPost, oneW, allOne, retV, retVA, ↓reduceIte, reduceCtorEq, Nat.reduceAdd, Nat.reduceSub, Nat.reduceMul, Nat.reduceLT, Nat.reduceLeDiff, Nat.reduceEqDiff, Nat.reduceDiv, Nat.reduceMod, Nat.reducePow, Int.reduceAdd, Int.reduceSub, Int.reduceMul, Int.reduceLT, Int.reduceLE, Int.reduceEq, Int.reduceNe, Int.reducePow, Int.reduceToNat, Int.reduceNeg]
  rintro s ⟨k, hk, hj, h10, h9, h8, h4, h100, h5⟩
  have hb := spK_b l k
  have el := sl_len (spK l k).1
  by_cases hlt : k < l.length
  · have hz := hU.get (by decide) k
    by_cases hv : 127 < l.getD k 0
    · have hn : ¬ lowP l := fun h => by have := h k hlt; omega
      rw [splitD, if_neg hn]
      simp -dsimp -implicitDefEqProofs (disch := first | omega | (simp only [List.length_append, List.length_cons, List.length_nil, List.length_take, List.length_drop]; omega)) only [h10, h9, h8, ↓aPre, aPost, oneW, allOne, retV, retVA, ↓reduceIte, reduceCtorEq, Nat.reduceAdd, Nat.reduceSub, Nat.reduceMul, Nat.reduceLT, Nat.reduceLeDiff, Nat.reduceEqDiff, Nat.reduceDiv, Nat.reduceMod, Nat.reducePow, Int.reduceAdd, Int.reduceSub, Int.reduceMul, Int.reduceLT, Int.reduceLE, Int.reduceEq, Int.reduceNe, Int.reducePow, Int.reduceToNat, Int.reduceNeg]
      exact post_nil (leD_refl _)
    · have hj' : ∀ j, j < k + 1 → l.getD j 0 ≤ 127 := fun j h => by
        rcases Nat.lt_or_eq_of_le (Nat.le_of_lt_succ h) with h | rfl
        · exact hj j h
        · omega
      by_cases h0 : l.getD k 0 = 0
      · have es1 : (spK l (k + 1)).1 = (spK l k).1 ++ [(spK l k).2] := by rw [spK, stp, if_pos h0]
        have es2 : (spK l (k + 1)).2 = [] := by rw [spK, stp, if_pos h0]
        have el1 : (spK l (k + 1)).1.length = (spK l k).1.length + 1 := by rw [es1, List.length_append]; rfl
        rcases h5 with ⟨h5, h5b⟩ | ⟨h5, h18, h5b⟩
        · simp -dsimp -implicitDefEqProofs (disch := first | omega | (simp only [List.length_append, List.length_cons, List.length_nil, List.length_take, List.length_drop]; omega)) only [h10, h9, h8, h4, h100, h5, h0, el, ↓aPre, aPost, oneW, allOne, retV, retVA, ↓reduceIte, reduceCtorEq, Nat.reduceAdd, Nat.reduceSub, Nat.reduceMul, Nat.reduceLT, Nat.reduceLeDiff, Nat.reduceEqDiff, Nat.reduceDiv, Nat.reduceMod, Nat.reducePow, Int.reduceAdd, Int.reduceSub, Int.reduceMul, Int.reduceLT, Int.reduceLE, Int.reduceEq, Int.reduceNe, Int.reducePow, Int.reduceToNat, Int.reduceNeg]
          refine round_of ⟨k + 1, by omega, hj', ?_, ?_, ?_, ?_, ?_, .inl ⟨?_, es2⟩⟩ ?_
          all_goals
            simp -dsimp -implicitDefEqProofs (disch := first | omega | (simp only [List.length_append, List.length_cons, List.length_nil, List.length_take, List.length_drop]; omega)) only [h10, h9, h8, h4, h100, h5, h0, el, el1, ↓aPre, aPost, oneW, allOne, retV, retVA, ↓reduceIte, reduceCtorEq, Nat.reduceAdd, Nat.reduceSub, Nat.reduceMul, Nat.reduceLT, Nat.reduceLeDiff, Nat.reduceEqDiff, Nat.reduceDiv, Nat.reduceMod, Nat.reducePow, Int.reduceAdd, Int.reduceSub, Int.reduceMul, Int.reduceLT, Int.reduceLE, Int.reduceEq, Int.reduceNe, Int.reducePow, Int.reduceToNat, Int.reduceNeg]
            try (rw [es1, h5b, ← sl_app]; rfl)
            try omega
        · simp -dsimp -implicitDefEqProofs (disch := first | omega | (simp only [List.length_append, List.length_cons, List.length_nil, List.length_take, List.length_drop]; omega)) only [h10, h9, h8, h4, h100, h5, h18, h0, el, ↓aPre, aPost, oneW, allOne, retV, retVA, ↓reduceIte, reduceCtorEq, Nat.reduceAdd, Nat.reduceSub, Nat.reduceMul, Nat.reduceLT, Nat.reduceLeDiff, Nat.reduceEqDiff, Nat.reduceDiv, Nat.reduceMod, Nat.reducePow, Int.reduceAdd, Int.reduceSub, Int.reduceMul, Int.reduceLT, Int.reduceLE, Int.reduceEq, Int.reduceNe, Int.reducePow, Int.reduceToNat, Int.reduceNeg]
          refine round_of ⟨k + 1, by omega, hj', ?_, ?_, ?_, ?_, ?_, .inl ⟨?_, es2⟩⟩ ?_
          all_goals
            simp -dsimp -implicitDefEqProofs (disch := first | omega | (simp only [List.length_append, List.length_cons, List.length_nil, List.length_take, List.length_drop]; omega)) only [h10, h9, h8, h4, h100, h5, h18, h0, el, el1, ↓aPre, aPost, oneW, allOne, retV, retVA, ↓reduceIte, reduceCtorEq, Nat.reduceAdd, Nat.reduceSub, Nat.reduceMul, Nat.reduceLT, Nat.reduceLeDiff, Nat.reduceEqDiff, Nat.reduceDiv, Nat.reduceMod, Nat.reducePow, Int.reduceAdd, Int.reduceSub, Int.reduceMul, Int.reduceLT, Int.reduceLE, Int.reduceEq, Int.reduceNe, Int.reducePow, Int.reduceToNat, Int.reduceNeg]
            try (rw [es1, ← sl_app]; rfl)
            try omega
      · have es1 : (spK l (k + 1)).1 = (spK l k).1 := by rw [spK, stp, if_neg h0]
        have es2 : (spK l (k + 1)).2 = (spK l k).2 ++ [l.getD k 0] := by rw [spK, stp, if_neg h0]
        rcases h5 with ⟨h5, h5b⟩ | ⟨h5, h18, h5b⟩
        · rw [h5b, List.nil_append] at es2
          simp -dsimp -implicitDefEqProofs (disch := first | omega | (simp only [List.length_append, List.length_cons, List.length_nil, List.length_take, List.length_drop]; omega)) only [h10, h9, h8, h4, h100, h5, ibeq_f h0, h0, ↓aPre, aPost, oneW, allOne, retV, retVA, ↓reduceIte, reduceCtorEq, Nat.reduceAdd, Nat.reduceSub, Nat.reduceMul, Nat.reduceLT, Nat.reduceLeDiff, Nat.reduceEqDiff, Nat.reduceDiv, Nat.reduceMod, Nat.reducePow, Int.reduceAdd, Int.reduceSub, Int.reduceMul, Int.reduceLT, Int.reduceLE, Int.reduceEq, Int.reduceNe, Int.reducePow, Int.reduceToNat, Int.reduceNeg]
          refine round_of ⟨k + 1, by omega, hj', ?_, ?_, ?_, ?_, ?_, .inr ⟨?_, ?_, by rw [es2]; simp⟩⟩ ?_
          all_goals
            simp -dsimp -implicitDefEqProofs (disch := first | omega | (simp only [List.length_append, List.length_cons, List.length_nil, List.length_take, List.length_drop]; omega)) only [h10, h9, h8, h4, h100, h5, ibeq_f h0, h0, es1, es2, ↓aPre, aPost, oneW, allOne, retV, retVA, ↓reduceIte, reduceCtorEq, Nat.reduceAdd, Nat.reduceSub, Nat.reduceMul, Nat.reduceLT, Nat.reduceLeDiff, Nat.reduceEqDiff, Nat.reduceDiv, Nat.reduceMod, Nat.reducePow, Int.reduceAdd, Int.reduceSub, Int.reduceMul, Int.reduceLT, Int.reduceLE, Int.reduceEq, Int.reduceNe, Int.reducePow, Int.reduceToNat, Int.reduceNeg]
            try omega
        · simp -dsimp -implicitDefEqProofs (disch := first | omega | (simp only [List.length_append, List.length_cons, List.length_nil, List.length_take, List.length_drop]; omega)) only [h10, h9, h8, h4, h100, h5, h18, ibeq_f h0, h0, ↓aPre, aPost, oneW, allOne, retV, retVA, ↓reduceIte, reduceCtorEq, Nat.reduceAdd, Nat.reduceSub, Nat.reduceMul, Nat.reduceLT, Nat.reduceLeDiff, Nat.reduceEqDiff, Nat.reduceDiv, Nat.reduceMod, Nat.reducePow, Int.reduceAdd, Int.reduceSub, Int.reduceMul, Int.reduceLT, Int.reduceLE, Int.reduceEq, Int.reduceNe, Int.reducePow, Int.reduceToNat, Int.reduceNeg]
          refine round_of ⟨k + 1, by omega, hj', ?_, ?_, ?_, ?_, ?_, .inr ⟨?_, ?_, by rw [es2]; simp⟩⟩ ?_
          all_goals
            simp -dsimp -implicitDefEqProofs (disch := first | omega | (simp only [List.length_append, List.length_cons, List.length_nil, List.length_take, List.length_drop]; omega)) only [h10, h9, h8, h4, h100, h5, h18, ibeq_f h0, h0, es1, es2, ↓aPre, aPost, oneW, allOne, retV, retVA, ↓reduceIte, reduceCtorEq, Nat.reduceAdd, Nat.reduceSub, Nat.reduceMul, Nat.reduceLT, Nat.reduceLeDiff, Nat.reduceEqDiff, Nat.reduceDiv, Nat.reduceMod, Nat.reducePow, Int.reduceAdd, Int.reduceSub, Int.reduceMul, Int.reduceLT, Int.reduceLE, Int.reduceEq, Int.reduceNe, Int.reducePow, Int.reduceToNat, Int.reduceNeg]
            try omega
  · obtain rfl : k = l.length := by omega
    have hlow : lowP l := hj
    rcases h5 with ⟨h5, h5b⟩ | ⟨h5, h18, h5b⟩
    · rw [splitD, if_pos hlow, if_pos h5b]
      simp -dsimp -implicitDefEqProofs (disch := first | omega | (simp only [List.length_append, List.length_cons, List.length_nil, List.length_take, List.length_drop]; omega)) only [h10, h9, h8, h4, h100, h5, el, ↓aPre, aPost, oneW, allOne, retV, retVA, ↓reduceIte, reduceCtorEq, Nat.reduceAdd, Nat.reduceSub, Nat.reduceMul, Nat.reduceLT, Nat.reduceLeDiff, Nat.reduceEqDiff, Nat.reduceDiv, Nat.reduceMod, Nat.reducePow, Int.reduceAdd, Int.reduceSub, Int.reduceMul, Int.reduceLT, Int.reduceLE, Int.reduceEq, Int.reduceNe, Int.reducePow, Int.reduceToNat, Int.reduceNeg]
      refine post_eq ?_
      first | rfl | rw [List.take_of_length_le (by rw [el]; exact Nat.le_refl _)]
    · rw [splitD, if_pos hlow, if_neg (fun h => h5b (by rw [h]; rfl))]
      have hne : 0 < (spK l l.length).2.length := by omega
      simp -dsimp -implicitDefEqProofs (disch := first | omega | (simp only [List.length_append, List.length_cons, List.length_nil, List.length_take, List.length_drop]; omega)) only [h10, h9, h8, h4, h100, h5, h18, ↓aPre, aPost, oneW, allOne, retV, retVA, ↓reduceIte, reduceCtorEq, Nat.reduceAdd, Nat.reduceSub, Nat.reduceMul, Nat.reduceLT, Nat.reduceLeDiff, Nat.reduceEqDiff, Nat.reduceDiv, Nat.reduceMod, Nat.reducePow, Int.reduceAdd, Int.reduceSub, Int.reduceMul, Int.reduceLT, Int.reduceLE, Int.reduceEq, Int.reduceNe, Int.reducePow, Int.reduceToNat, Int.reduceNeg]
      exact post_nil (leD_refl _)
theorem sp_last (l : List Int) (k : Nat) : (spK l (k + 1)).2 = [] ↔ l.getD k 0 = 0 := by
  rw [spK, stp]
  split
  · rename_i h; exact ⟨fun _ => h, fun _ => rfl⟩
  · rename_i h; exact ⟨fun e => by simp at e, fun e => (h e).elim⟩
theorem rsplit_giv (l : List Int) (hl : l.length ≤ 100000) (hU : In 18446744073709551616 l) : Giv Try.prog 12 [.lst 1 (li .u64 l)] (retV (splitD l)) := by
  refine Giv.of mixed c12 (Nat.le_of_ble_eq_true rfl) ?_
  simp -dsimp -implicitDefEqProofs (disch := first | omega | (simp only [List.length_append, List.length_cons, List.length_nil, List.length_take, List.length_drop]; omega)) only [a12, ↓aPre, aPost, oneW, allOne, retV, retVA, ↓reduceIte, reduceCtorEq, Nat.reduceAdd, Nat.reduceSub, Nat.reduceMul, Nat.reduceLT, Nat.reduceLeDiff, Nat.reduceEqDiff, Nat.reduceDiv, Nat.reduceMod, Nat.reducePow, Int.reduceAdd, Int.reduceSub, Int.reduceMul, Int.reduceLT, Int.reduceLE, Int.reduceEq, Int.reduceNe, Int.reducePow, Int.reduceToNat, Int.reduceNeg]
  refine loop_of (fun s => ∃ (k : Nat), k ≤ l.length ∧ (∀ j, j < k → l.getD j 0 ≤ 127) ∧ s.tm 4 = .d (.c (.int .i64 k)) ∧ s.tm 0 = .d (.lst 1 (li .u64 l))) (fun s => l.length - (avN (s.tm 4)).toNat) ?_ ?_
  · refine ⟨0, Nat.zero_le _, fun j hj => by omega, ?_⟩
    simp -dsimp -implicitDefEqProofs (disch := first | omega | (simp only [List.length_append, List.length_cons, List.length_nil, List.length_take, List.length_drop]; omega)) only [Int.natCast_zero, ↓aPre, aPost, oneW, allOne, retV, retVA, ↓reduceIte, reduceCtorEq, Nat.reduceAdd, Nat.reduceSub, Nat.reduceMul, Nat.reduceLT, Nat.reduceLeDiff, Nat.reduceEqDiff, Nat.reduceDiv, Nat.reduceMod, Nat.reducePow, Int.reduceAdd, Int.reduceSub, Int.reduceMul, Int.reduceLT, Int.reduceLE, Int.reduceEq, Int.reduceNe, Int.reducePow, Int.reduceToNat, Int.reduceNeg]
  rintro s ⟨k, hk, hj, hs⟩
  by_cases hlt : k < l.length
  · have hz := hU.get (by decide) k
    by_cases hv : 127 < l.getD k 0
    · have hn : ¬ lowP l := fun h => by have := h k hlt; omega
      rw [splitD, if_neg hn]
      simp -dsimp -implicitDefEqProofs (disch := first | omega | (simp only [List.length_append, List.length_cons, List.length_nil, List.length_take, List.length_drop]; omega)) only [hs, ↓aPre, aPost, oneW, allOne, retV, retVA, ↓reduceIte, reduceCtorEq, Nat.reduceAdd, Nat.reduceSub, Nat.reduceMul, Nat.reduceLT, Nat.reduceLeDiff, Nat.reduceEqDiff, Nat.reduceDiv, Nat.reduceMod, Nat.reducePow, Int.reduceAdd, Int.reduceSub, Int.reduceMul, Int.reduceLT, Int.reduceLE, Int.reduceEq, Int.reduceNe, Int.reducePow, Int.reduceToNat, Int.reduceNeg]
      exact post_nil (leD_refl _)
    · simp -dsimp -implicitDefEqProofs (disch := first | omega | (simp only [List.length_append, List.length_cons, List.length_nil, List.length_take, List.length_drop]; omega)) only [hs, ↓aPre, aPost, oneW, allOne, retV, retVA, ↓reduceIte, reduceCtorEq, Nat.reduceAdd, Nat.reduceSub, Nat.reduceMul, Nat.reduceLT, Nat.reduceLeDiff, Nat.reduceEqDiff, Nat.reduceDiv, Nat.reduceMod, Nat.reducePow, Int.reduceAdd, Int.reduceSub, Int.reduceMul, Int.reduceLT, Int.reduceLE, Int.reduceEq, Int.reduceNe, Int.reducePow, Int.reduceToNat, Int.reduceNeg]
      refine round_of ⟨k + 1, by omega, fun j h => ?_, ?_⟩ ?_
      · rcases Nat.lt_or_eq_of_le (Nat.le_of_lt_succ h) with h | rfl
        · exact hj j h
        · omega
      · simp -dsimp -implicitDefEqProofs (disch := first | omega | (simp only [List.length_append, List.length_cons, List.length_nil, List.length_take, List.length_drop]; omega)) only [hs, ↓aPre, aPost, oneW, allOne, retV, retVA, ↓reduceIte, reduceCtorEq, Nat.reduceAdd, Nat.reduceSub, Nat.reduceMul, Nat.reduceLT, Nat.reduceLeDiff, Nat.reduceEqDiff, Nat.reduceDiv, Nat.reduceMod, Nat.reducePow, Int.reduceAdd, Int.reduceSub, Int.reduceMul, Int.reduceLT, Int.reduceLE, Int.reduceEq, Int.reduceNe, Int.reducePow, Int.reduceToNat, Int.reduceNeg]
      · simp -dsimp -implicitDefEqProofs (disch := first | omega | (simp only [List.length_append, List.length_cons, List.length_nil, List.length_take, List.length_drop]; omega)) only [hs, ↓aPre, aPost, oneW, allOne, retV, retVA, ↓reduceIte, reduceCtorEq, Nat.reduceAdd, Nat.reduceSub, Nat.reduceMul, Nat.reduceLT, Nat.reduceLeDiff, Nat.reduceEqDiff, Nat.reduceDiv, Nat.reduceMod, Nat.reducePow, Int.reduceAdd, Int.reduceSub, Int.reduceMul, Int.reduceLT, Int.reduceLE, Int.reduceEq, Int.reduceNe, Int.reducePow, Int.reduceToNat, Int.reduceNeg]
        omega
  · obtain rfl : k = l.length := by omega
    have hlow : lowP l := hj
    rw [splitD, if_pos hlow]
    by_cases hlast : 0 < l.length ∧ ¬ l.getD (l.length - 1) 0 = 0
    · have e1 : ((l.length : Int) - 1).toNat = l.length - 1 := by omega
      have hl1 := hlast.1
      have hsp := sp_last l (l.length - 1)
      rw [show l.length - 1 + 1 = l.length by omega] at hsp
      rw [if_neg (fun h => hlast.2 (hsp.1 h))]
      simp -dsimp -implicitDefEqProofs (disch := first | omega | (simp only [List.length_append, List.length_cons, List.length_nil, List.length_take, List.length_drop]; omega)) only [hs, e1, ibne_t hlast.2, ↓aPre, aPost, oneW, allOne, retV, retVA, ↓reduceIte, reduceCtorEq, Nat.reduceAdd, Nat.reduceSub, Nat.reduceMul, Nat.reduceLT, Nat.reduceLeDiff, Nat.reduceEqDiff, Nat.reduceDiv, Nat.reduceMod, Nat.reducePow, Int.reduceAdd, Int.reduceSub, Int.reduceMul, Int.reduceLT, Int.reduceLE, Int.reduceEq, Int.reduceNe, Int.reducePow, Int.reduceToNat, Int.reduceNeg]
      exact post_nil (leD_refl _)
    · have hem : (spK l l.length).2 = [] := by
        rcases Nat.eq_zero_or_pos l.length with h | h
        · rw [h]; rfl
        · have hsp := sp_last l (l.length - 1)
          rw [show l.length - 1 + 1 = l.length by omega] at hsp
          exact hsp.2 (Decidable.byContradiction fun hh => hlast ⟨h, hh⟩)
      rw [if_pos hem]
      have main : ∀ (s : St), True := fun _ => trivial
      rcases Nat.eq_zero_or_pos l.length with h0 | h0
      · obtain rfl : l = [] := List.eq_nil_of_length_eq_zero h0
        simp -dsimp -implicitDefEqProofs (disch := first | omega | (simp only [List.length_append, List.length_cons, List.length_nil, List.length_take, List.length_drop]; omega)) only [hs, ↓aPre, aPost, oneW, allOne, retV, retVA, ↓reduceIte, reduceCtorEq, Nat.reduceAdd, Nat.reduceSub, Nat.reduceMul, Nat.reduceLT, Nat.reduceLeDiff, Nat.reduceEqDiff, Nat.reduceDiv, Nat.reduceMod, Nat.reducePow, Int.reduceAdd, Int.reduceSub, Int.reduceMul, Int.reduceLT, Int.reduceLE, Int.reduceEq, Int.reduceNe, Int.reducePow, Int.reduceToNat, Int.reduceNeg]
        refine loop_of (fun s => s.tm 7 = .d (.c (.int .i64 0)) ∧ s.tm 0 = .d (.lst 1 (li .u64 [])) ∧ s.tm 5 = .d (.c (.slice none 0 0))) (fun s => 0) ?_ ?_
        · simp -dsimp -implicitDefEqProofs (disch := first | omega | (simp only [List.length_append, List.length_cons, List.length_nil, List.length_take, List.length_drop]; omega)) only [hs, ↓aPre, aPost, oneW, allOne, retV, retVA, ↓reduceIte, reduceCtorEq, Nat.reduceAdd, Nat.reduceSub, Nat.reduceMul, Nat.reduceLT, Nat.reduceLeDiff, Nat.reduceEqDiff, Nat.reduceDiv, Nat.reduceMod, Nat.reducePow, Int.reduceAdd, Int.reduceSub, Int.reduceMul, Int.reduceLT, Int.reduceLE, Int.reduceEq, Int.reduceNe, Int.reducePow, Int.reduceToNat, Int.reduceNeg]
        rintro s2 hs2
        simp -dsimp -implicitDefEqProofs (disch := first | omega | (simp only [List.length_append, List.length_cons, List.length_nil, List.length_take, List.length_drop]; omega)) only [hs2, ↓aPre, aPost, oneW, allOne, retV, retVA, ↓reduceIte, reduceCtorEq, Nat.reduceAdd, Nat.reduceSub, Nat.reduceMul, Nat.reduceLT, Nat.reduceLeDiff, Nat.reduceEqDiff, Nat.reduceDiv, Nat.reduceMod, Nat.reducePow, Int.reduceAdd, Int.reduceSub, Int.reduceMul, Int.reduceLT, Int.reduceLE, Int.reduceEq, Int.reduceNe, Int.reducePow, Int.reduceToNat, Int.reduceNeg]
        exact post_nil (leD_refl _)
      · have hz0 : l.getD (l.length - 1) 0 = 0 := Decidable.byContradiction fun hh => hlast ⟨h0, hh⟩
        have e1 : ((l.length : Int) - 1).toNat = l.length - 1 := by omega
        simp -dsimp -implicitDefEqProofs (disch := first | omega | (simp only [List.length_append, List.length_cons, List.length_nil, List.length_take, List.length_drop]; omega)) only [hs, e1, hz0, ↓aPre, aPost, oneW, allOne, retV, retVA, ↓reduceIte, reduceCtorEq, Nat.reduceAdd, Nat.reduceSub, Nat.reduceMul, Nat.reduceLT, Nat.reduceLeDiff, Nat.reduceEqDiff, Nat.reduceDiv, Nat.reduceMod, Nat.reducePow, Int.reduceAdd, Int.reduceSub, Int.reduceMul, Int.reduceLT, Int.reduceLE, Int.reduceEq, Int.reduceNe, Int.reducePow, Int.reduceToNat, Int.reduceNeg]
        refine loop_nil 5 100 1 (fun s => ∃ (k : Nat), k ≤ l.length ∧ s.tm 7 = .d (.c (.int .i64 k)) ∧ s.tm 0 = .d (.lst 1 (li .u64 l)) ∧ s.tm 6 = .d (.c (.string (strOfNums (spK l k).2))) ∧ s.tm 5 = .sl 100 1 0 (spK l k).1.length ∧ s.hp 100 = some (.row 1 (sl (spK l k).1))) (fun s => l.length - (avN (s.tm 7)).toNat) ?_ (by decide) ?_ ?_
        · simp -dsimp -implicitDefEqProofs (disch := first | omega | (simp only [List.length_append, List.length_cons, List.length_nil, List.length_take, List.length_drop]; omega)) only [hs, ↓aPre, aPost, oneW, allOne, retV, retVA, ↓reduceIte, reduceCtorEq, Nat.reduceAdd, Nat.reduceSub, Nat.reduceMul, Nat.reduceLT, Nat.reduceLeDiff, Nat.reduceEqDiff, Nat.reduceDiv, Nat.reduceMod, Nat.reducePow, Int.reduceAdd, Int.reduceSub, Int.reduceMul, Int.reduceLT, Int.reduceLE, Int.reduceEq, Int.reduceNe, Int.reducePow, Int.reduceToNat, Int.reduceNeg]
        · refine ⟨0, Nat.zero_le _, ?_⟩
          have e0 : (spK l 0).1 = [] := rfl
          have e2 : (spK l 0).2 = [] := rfl
          have e3 : sl ([] : List (List Int)) = [] := rfl
          simp -dsimp -implicitDefEqProofs (disch := first | omega | (simp only [List.length_append, List.length_cons, List.length_nil, List.length_take, List.length_drop]; omega)) only [hs, e0, e2, e3, Int.natCast_zero, ↓aPre, aPost, oneW, allOne, retV, retVA, ↓reduceIte, reduceCtorEq, Nat.reduceAdd, Nat.reduceSub, Nat.reduceMul, Nat.reduceLT, Nat.reduceLeDiff, Nat.reduceEqDiff, Nat.reduceDiv, Nat.reduceMod, Nat.reducePow, Int.reduceAdd, Int.reduceSub, Int.reduceMul, Int.reduceLT, Int.reduceLE, Int.reduceEq, Int.reduceNe, Int.reducePow, Int.reduceToNat, Int.reduceNeg]
        rintro s2 ⟨k, hk, hs2⟩
        have hb := spK_b l k
        have el := sl_len (spK l k).1
        by_cases hlt : k < l.length
        · have hz := hU.get (by decide) k
          have hz2 := hj k hlt
          by_cases hzk : l.getD k 0 = 0
          · have es1 : (spK l (k + 1)).1 = (spK l k).1 ++ [(spK l k).2] := by rw [spK, stp, if_pos hzk]
            have es2 : (spK l (k + 1)).2 = [] := by rw [spK, stp, if_pos hzk]
            have es3 : sl ((spK l k).1 ++ [(spK l k).2]) = sl (spK l k).1 ++ [D.c (.string (strOfNums (spK l k).2))] := (sl_app ..).symm
            simp -dsimp -implicitDefEqProofs (disch := first | omega | (simp only [List.length_append, List.length_cons, List.length_nil, List.length_take, List.length_drop]; omega)) only [hs2, hzk, el, ↓aPre, aPost, oneW, allOne, retV, retVA, ↓reduceIte, reduceCtorEq, Nat.reduceAdd, Nat.reduceSub, Nat.reduceMul, Nat.reduceLT, Nat.reduceLeDiff, Nat.reduceEqDiff, Nat.reduceDiv, Nat.reduceMod, Nat.reducePow, Int.reduceAdd, Int.reduceSub, Int.reduceMul, Int.reduceLT, Int.reduceLE, Int.reduceEq, Int.reduceNe, Int.reducePow, Int.reduceToNat, Int.reduceNeg]
            refine round_of ⟨k + 1, by omega, ?_⟩ ?_
            · simp -dsimp -implicitDefEqProofs (disch := first | omega | (simp only [List.length_append, List.length_cons, List.length_nil, List.length_take, List.length_drop]; omega)) only [hs2, hzk, el, es1, es2, es3, ↓aPre, aPost, oneW, allOne, retV, retVA, ↓reduceIte, reduceCtorEq, Nat.reduceAdd, Nat.reduceSub, Nat.reduceMul, Nat.reduceLT, Nat.reduceLeDiff, Nat.reduceEqDiff, Nat.reduceDiv, Nat.reduceMod, Nat.reducePow, Int.reduceAdd, Int.reduceSub, Int.reduceMul, Int.reduceLT, Int.reduceLE, Int.reduceEq, Int.reduceNe, Int.reducePow, Int.reduceToNat, Int.reduceNeg]
            · simp -dsimp -implicitDefEqProofs (disch := first | omega | (simp only [List.length_append, List.length_cons, List.length_nil, List.length_take, List.length_drop]; omega)) only [hs2, ↓aPre, aPost, oneW, allOne, retV, retVA, ↓reduceIte, reduceCtorEq, Nat.reduceAdd, Nat.reduceSub, Nat.reduceMul, Nat.reduceLT, Nat.reduceLeDiff, Nat.reduceEqDiff, Nat.reduceDiv, Nat.reduceMod, Nat.reducePow, Int.reduceAdd, Int.reduceSub, Int.reduceMul, Int.reduceLT, Int.reduceLE, Int.reduceEq, Int.reduceNe, Int.reducePow, Int.reduceToNat, Int.reduceNeg]
              omega
          · have es1 : (spK l (k + 1)).1 = (spK l k).1 := by rw [spK, stp, if_neg hzk]
            have es2 : (spK l (k + 1)).2 = (spK l k).2 ++ [l.getD k 0] := by rw [spK, stp, if_neg hzk]
            simp -dsimp -implicitDefEqProofs (disch := first | omega | (simp only [List.length_append, List.length_cons, List.length_nil, List.length_take, List.length_drop]; omega)) only [hs2, ibeq_f hzk, hzk, ↓aPre, aPost, oneW, allOne, retV, retVA, ↓reduceIte, reduceCtorEq, Nat.reduceAdd, Nat.reduceSub, Nat.reduceMul, Nat.reduceLT, Nat.reduceLeDiff, Nat.reduceEqDiff, Nat.reduceDiv, Nat.reduceMod, Nat.reducePow, Int.reduceAdd, Int.reduceSub, Int.reduceMul, Int.reduceLT, Int.reduceLE, Int.reduceEq, Int.reduceNe, Int.reducePow, Int.reduceToNat, Int.reduceNeg]
            refine round_of ⟨k + 1, by omega, ?_⟩ ?_
            · simp -dsimp -implicitDefEqProofs (disch := first | omega | (simp only [List.length_append, List.length_cons, List.length_nil, List.length_take, List.length_drop]; omega)) only [hs2, ibeq_f hzk, hzk, es1, es2, ↓aPre, aPost, oneW, allOne, retV, retVA, ↓reduceIte, reduceCtorEq, Nat.reduceAdd, Nat.reduceSub, Nat.reduceMul, Nat.reduceLT, Nat.reduceLeDiff, Nat.reduceEqDiff, Nat.reduceDiv, Nat.reduceMod, Nat.reducePow, Int.reduceAdd, Int.reduceSub, Int.reduceMul, Int.reduceLT, Int.reduceLE, Int.reduceEq, Int.reduceNe, Int.reducePow, Int.reduceToNat, Int.reduceNeg]
            · simp -dsimp -implicitDefEqProofs (disch := first | omega | (simp only [List.length_append, List.length_cons, List.length_nil, List.length_take, List.length_drop]; omega)) only [hs2, ↓aPre, aPost, oneW, allOne, retV, retVA, ↓reduceIte, reduceCtorEq, Nat.reduceAdd, Nat.reduceSub, Nat.reduceMul, Nat.reduceLT, Nat.reduceLeDiff, Nat.reduceEqDiff, Nat.reduceDiv, Nat.reduceMod, Nat.reducePow, Int.reduceAdd, Int.reduceSub, Int.reduceMul, Int.reduceLT, Int.reduceLE, Int.reduceEq, Int.reduceNe, Int.reducePow, Int.reduceToNat, Int.reduceNeg]
              omega
        · obtain rfl : k = l.length := by omega
          simp -dsimp -implicitDefEqProofs (disch := first | omega | (simp only [List.length_append, List.length_cons, List.length_nil, List.length_take, List.length_drop]; omega)) only [hs2, el, ↓aPre, aPost, oneW, allOne, retV, retVA, ↓reduceIte, reduceCtorEq, Nat.reduceAdd, Nat.reduceSub, Nat.reduceMul, Nat.reduceLT, Nat.reduceLeDiff, Nat.reduceEqDiff, Nat.reduceDiv, Nat.reduceMod, Nat.reducePow, Int.reduceAdd, Int.reduceSub, Int.reduceMul, Int.reduceLT, Int.reduceLE, Int.reduceEq, Int.reduceNe, Int.reducePow, Int.reduceToNat, Int.reduceNeg]
          refine post_eq ?_
          first | rfl | rw [List.take_of_length_le (by rw [el]; exact Nat.le_refl _)]
def joK (ss : List (List Int)) : Nat → List Int
  | 0 => []
  | k + 1 => joK ss k ++ (ss.getD k [] ++ [0])
def okS (ss : List (List Int)) : Prop := ∀ k, k < ss.length → okB (ss.getD k [])
theorem joK_b {ss : List (List Int)} (h : ∀ k, k < ss.length → (ss.getD k []).length ≤ 1000) : ∀ k, k ≤ ss.length → (joK ss k).length ≤ 1001 * k
  | 0, _ => Nat.le_refl _
  | k + 1, hk => by
    have := joK_b h k (by omega)
    have := h k (by omega)
    rw [joK, List.length_append, List.length_append]
    simp only [List.length_singleton]; omega
theorem join_giv (ss : List (List Int)) (hl : ss.length ≤ 1000) (hb : ∀ k, k < ss.length → (ss.getD k []).length ≤ 1000 ∧ Bytes (ss.getD k [])) (out : List D) (h1 : okS ss → out = [.lst 1 (li .u64 (joK ss ss.length)), .c (.int .i64 0)]) (h2 : ¬ okS ss → out = [.lst 1 [], .c (.int .i64 3)]) : Giv Try.prog 13 [.lst 1 (sl ss)] (retV out) := by
  refine Giv.of mixed c13 (Nat.le_of_ble_eq_true rfl) ?_
  have hsl := sl_len ss
  simp -dsimp -implicitDefEqProofs (disch := first | omega | (simp only [List.length_append, List.length_cons, List.length_nil, List.length_take, List.length_drop]; omega)) only [a13, hsl, ↓aPre, aPost, oneW, allOne, retV, retVA, ↓reduceIte, reduceCtorEq, Nat.reduceAdd, Nat.reduceSub, Nat.reduceMul, Nat.reduceLT, Nat.reduceLeDiff, Nat.reduceEqDiff, Nat.reduceDiv, Nat.reduceMod, Nat.reducePow, Int.reduceAdd, Int.reduceSub, Int.reduceMul, Int.reduceLT, Int.reduceLE, Int.reduceEq, Int.reduceNe, Int.reducePow, Int.reduceToNat, Int.reduceNeg]
  refine loop_nil 4 100 1 (fun s => ∃ (k : Nat), k ≤ ss.length ∧ (∀ j, j < k → okB (ss.getD j [])) ∧ s.tm 10 = .d (.c (.int .i64 k)) ∧ s.tm 9 = .d (.c (.int .i64 ss.length)) ∧ s.tm 8 = .d (.lst 1 (sl ss)) ∧ s.tm 4 = .sl 100 1 0 (joK ss k).length ∧ s.hp 100 = some (.row 1 (li .u64 (joK ss k)))) (fun s => ss.length - (avN (s.tm 10)).toNat) ?_ (by decide) ?_ ?_
  · simp -dsimp -implicitDefEqProofs (disch := first | omega | (simp only [List.length_append, List.length_cons, List.length_nil, List.length_take, List.length_drop]; omega)) only [hsl, ↓aPre, aPost, oneW, allOne, retV, retVA, ↓reduceIte, reduceCtorEq, Nat.reduceAdd, Nat.reduceSub, Nat.reduceMul, Nat.reduceLT, Nat.reduceLeDiff, Nat.reduceEqDiff, Nat.reduceDiv, Nat.reduceMod, Nat.reducePow, Int.reduceAdd, Int.reduceSub, Int.reduceMul, Int.reduceLT, Int.reduceLE, Int.reduceEq, Int.reduceNe, Int.reducePow, Int.reduceToNat, Int.reduceNeg]
  · refine ⟨0, Nat.zero_le _, fun j hj => by omega, ?_⟩
    simp -dsimp -implicitDefEqProofs (disch := first | omega | (simp only [List.length_append, List.length_cons, List.length_nil, List.length_take, List.length_drop]; omega)) only [joK, hsl, Int.natCast_zero, ↓aPre, aPost, oneW, allOne, retV, retVA, ↓reduceIte, reduceCtorEq, Nat.reduceAdd, Nat.reduceSub, Nat.reduceMul, Nat.reduceLT, Nat.reduceLeDiff, Nat.reduceEqDiff, Nat.reduceDiv, Nat.reduceMod, Nat.reducePow, Int.reduceAdd, Int.reduceSub, Int.reduceMul, Int.reduceLT, Int.reduceLE, Int.reduceEq, Int.reduceNe, Int.reducePow, Int.reduceToNat, Int.reduceNeg]
  rintro s ⟨k, hk, hj, hs⟩
  have hjb := joK_b (fun k hk => (hb k hk).1) k hk
  by_cases hlt : k < ss.length
  · obtain ⟨hbl, hbB⟩ := hb k hlt
    have hg := sl_get ss hlt
    obtain ⟨b, hbe⟩ : ∃ b, b = ss.getD k [] := ⟨_, rfl⟩
    rw [← hbe] at hbl hbB hg
    simp -dsimp -implicitDefEqProofs (disch := first | omega | (simp only [List.length_append, List.length_cons, List.length_nil, List.length_take, List.length_drop]; omega)) only [hs, hsl, hg, ↓aPre, aPost, oneW, allOne, retV, retVA, ↓reduceIte, reduceCtorEq, Nat.reduceAdd, Nat.reduceSub, Nat.reduceMul, Nat.reduceLT, Nat.reduceLeDiff, Nat.reduceEqDiff, Nat.reduceDiv, Nat.reduceMod, Nat.reducePow, Int.reduceAdd, Int.reduceSub, Int.reduceMul, Int.reduceLT, Int.reduceLE, Int.reduceEq, Int.reduceNe, Int.reducePow, Int.reduceToNat, Int.reduceNeg]
    refine loop_of (fun s => ∃ (i : Nat), i ≤ b.length ∧ (∀ j, j < i → 0 < b.getD j 0 ∧ b.getD j 0 ≤ 127) ∧ s.tm 16 = .d (.c (.int .i64 i)) ∧ s.tm 15 = .d (.c (.int .i64 b.length)) ∧ s.tm 6 = .d (.c (.string (strOfNums b))) ∧ s.tm 10 = .d (.c (.int .i64 k)) ∧ s.tm 9 = .d (.c (.int .i64 ss.length)) ∧ s.tm 8 = .d (.lst 1 (sl ss)) ∧ s.tm 4 = .sl 100 1 0 ((joK ss k).length + i) ∧ s.hp 100 = some (.row 1 (li .u64 (joK ss k ++ b.take i)))) (fun s => b.length - (avN (s.tm 16)).toNat) ?_ ?_
    · refine ⟨0, Nat.zero_le _, fun j hj => by omega, ?_⟩
      simp -dsimp -implicitDefEqProofs (disch := first | omega | (simp only [List.length_append, List.length_cons, List.length_nil, List.length_take, List.length_drop]; omega)) only [hs, hsl, hg, Int.natCast_zero, ↓aPre, aPost, oneW, allOne, retV, retVA, ↓reduceIte, reduceCtorEq, Nat.reduceAdd, Nat.reduceSub, Nat.reduceMul, Nat.reduceLT, Nat.reduceLeDiff, Nat.reduceEqDiff, Nat.reduceDiv, Nat.reduceMod, Nat.reducePow, Int.reduceAdd, Int.reduceSub, Int.reduceMul, Int.reduceLT, Int.reduceLE, Int.reduceEq, Int.reduceNe, Int.reducePow, Int.reduceToNat, Int.reduceNeg]
    rintro s2 ⟨i, hi, hii, hs2⟩
    by_cases hil : i < b.length
    · have hz := hbB.get i
      by_cases hz0 : b.getD i 0 = 0
      · have hn : ¬ okS ss := fun h => by
          have h3 := h k hlt
          rw [← hbe] at h3
          have h4 := h3 (b.getD i 0) (by simp only [List.getD, List.getElem?_eq_getElem hil, Option.getD_some]; exact List.getElem_mem _)
          omega
        rw [h2 hn]
        simp -dsimp -implicitDefEqProofs (disch := first | omega | (simp only [List.length_append, List.length_cons, List.length_nil, List.length_take, List.length_drop]; omega)) only [hs2, str_get hbB, hz0, ↓aPre, aPost, oneW, allOne, retV, retVA, ↓reduceIte, reduceCtorEq, Nat.reduceAdd, Nat.reduceSub, Nat.reduceMul, Nat.reduceLT, Nat.reduceLeDiff, Nat.reduceEqDiff, Nat.reduceDiv, Nat.reduceMod, Nat.reducePow, Int.reduceAdd, Int.reduceSub, Int.reduceMul, Int.reduceLT, Int.reduceLE, Int.reduceEq, Int.reduceNe, Int.reducePow, Int.reduceToNat, Int.reduceNeg]
        exact post_nil (leD_refl _)
      by_cases hz1 : 127 < b.getD i 0
      · have hn : ¬ okS ss := fun h => by
          have h3 := h k hlt
          rw [← hbe] at h3
          have h4 := h3 (b.getD i 0) (by simp only [List.getD, List.getElem?_eq_getElem hil, Option.getD_some]; exact List.getElem_mem _)
          omega
        rw [h2 hn]
        simp -dsimp -implicitDefEqProofs (disch := first | omega | (simp only [List.length_append, List.length_cons, List.length_nil, List.length_take, List.length_drop]; omega)) only [hs2, str_get hbB, ibeq_f hz0, hz0, ↓aPre, aPost, oneW, allOne, retV, retVA, ↓reduceIte, reduceCtorEq, Nat.reduceAdd, Nat.reduceSub, Nat.reduceMul, Nat.reduceLT, Nat.reduceLeDiff, Nat.reduceEqDiff, Nat.reduceDiv, Nat.reduceMod, Nat.reducePow, Int.reduceAdd, Int.reduceSub, Int.reduceMul, Int.reduceLT, Int.reduceLE, Int.reduceEq, Int.reduceNe, Int.reducePow, Int.reduceToNat, Int.reduceNeg]
        exact post_nil (leD_refl _)
      have et : b.take (i + 1) = b.take i ++ [b.getD i 0] := take_at hil
      have etl : (b.take i).length = i := by rw [List.length_take]; omega
      simp -dsimp -implicitDefEqProofs (disch := first | omega | (simp only [List.length_append, List.length_cons, List.length_nil, List.length_take, List.length_drop]; omega)) only [hs2, str_get hbB, ibeq_f hz0, hz0, etl, ↓aPre, aPost, oneW, allOne, retV, retVA, ↓reduceIte, reduceCtorEq, Nat.reduceAdd, Nat.reduceSub, Nat.reduceMul, Nat.reduceLT, Nat.reduceLeDiff, Nat.reduceEqDiff, Nat.reduceDiv, Nat.reduceMod, Nat.reducePow, Int.reduceAdd, Int.reduceSub, Int.reduceMul, Int.reduceLT, Int.reduceLE, Int.reduceEq, Int.reduceNe, Int.reducePow, Int.reduceToNat, Int.reduceNeg]
      refine round_of ⟨i + 1, by omega, fun j hj' => ?_, ?_⟩ ?_
      · rcases Nat.lt_or_eq_of_le (Nat.le_of_lt_succ hj') with h | rfl
        · exact hii j h
        · omega
      · simp -dsimp -implicitDefEqProofs (disch := first | omega | (simp only [List.length_append, List.length_cons, List.length_nil, List.length_take, List.length_drop]; omega)) only [hs2, str_get hbB, ibeq_f hz0, hz0, etl, et, List.append_assoc, Nat.add_assoc, ↓aPre, aPost, oneW, allOne, retV, retVA, ↓reduceIte, reduceCtorEq, Nat.reduceAdd, Nat.reduceSub, Nat.reduceMul, Nat.reduceLT, Nat.reduceLeDiff, Nat.reduceEqDiff, Nat.reduceDiv, Nat.reduceMod, Nat.reducePow, Int.reduceAdd, Int.reduceSub, Int.reduceMul, Int.reduceLT, Int.reduceLE, Int.reduceEq, Int.reduceNe, Int.reducePow, Int.reduceToNat, Int.reduceNeg]
      · simp -dsimp -implicitDefEqProofs (disch := first | omega | (simp only [List.length_append, List.length_cons, List.length_nil, List.length_take, List.length_drop]; omega)) only [hs2, ↓aPre, aPost, oneW, allOne, retV, retVA, ↓reduceIte, reduceCtorEq, Nat.reduceAdd, Nat.reduceSub, Nat.reduceMul, Nat.reduceLT, Nat.reduceLeDiff, Nat.reduceEqDiff, Nat.reduceDiv, Nat.reduceMod, Nat.reducePow, Int.reduceAdd, Int.reduceSub, Int.reduceMul, Int.reduceLT, Int.reduceLE, Int.reduceEq, Int.reduceNe, Int.reducePow, Int.reduceToNat, Int.reduceNeg]
        omega
    · obtain rfl : i = b.length := by omega
      have etl : b.take b.length = b := List.take_length
      have hjk : joK ss (k + 1) = joK ss k ++ (b ++ [0]) := by rw [joK, hbe]
      simp -dsimp -implicitDefEqProofs (disch := first | omega | (simp only [List.length_append, List.length_cons, List.length_nil, List.length_take, List.length_drop]; omega)) only [hs2, etl, ↓aPre, aPost, oneW, allOne, retV, retVA, ↓reduceIte, reduceCtorEq, Nat.reduceAdd, Nat.reduceSub, Nat.reduceMul, Nat.reduceLT, Nat.reduceLeDiff, Nat.reduceEqDiff, Nat.reduceDiv, Nat.reduceMod, Nat.reducePow, Int.reduceAdd, Int.reduceSub, Int.reduceMul, Int.reduceLT, Int.reduceLE, Int.reduceEq, Int.reduceNe, Int.reducePow, Int.reduceToNat, Int.reduceNeg]
      refine round_of ⟨k + 1, by omega, fun j hj' => ?_, ?_⟩ ?_
      · rcases Nat.lt_or_eq_of_le (Nat.le_of_lt_succ hj') with h | rfl
        · exact hj j h
        · rw [← hbe]
          intro z hz
          obtain ⟨q, hq, rfl⟩ := List.getElem_of_mem hz
          have := hii q hq
          simp only [List.getD, List.getElem?_eq_getElem hq, Option.getD_some] at this
          exact this
      · simp -dsimp -implicitDefEqProofs (disch := first | omega | (simp only [List.length_append, List.length_cons, List.length_nil, List.length_take, List.length_drop]; omega)) only [hs2, etl, hjk, List.append_assoc, Nat.add_assoc, ↓aPre, aPost, oneW, allOne, retV, retVA, ↓reduceIte, reduceCtorEq, Nat.reduceAdd, Nat.reduceSub, Nat.reduceMul, Nat.reduceLT, Nat.reduceLeDiff, Nat.reduceEqDiff, Nat.reduceDiv, Nat.reduceMod, Nat.reducePow, Int.reduceAdd, Int.reduceSub, Int.reduceMul, Int.reduceLT, Int.reduceLE, Int.reduceEq, Int.reduceNe, Int.reducePow, Int.reduceToNat, Int.reduceNeg]
      · simp -dsimp -implicitDefEqProofs (disch := first | omega | (simp only [List.length_append, List.length_cons, List.length_nil, List.length_take, List.length_drop]; omega)) only [hs2, hs, ↓aPre, aPost, oneW, allOne, retV, retVA, ↓reduceIte, reduceCtorEq, Nat.reduceAdd, Nat.reduceSub, Nat.reduceMul, Nat.reduceLT, Nat.reduceLeDiff, Nat.reduceEqDiff, Nat.reduceDiv, Nat.reduceMod, Nat.reducePow, Int.reduceAdd, Int.reduceSub, Int.reduceMul, Int.reduceLT, Int.reduceLE, Int.reduceEq, Int.reduceNe, Int.reducePow, Int.reduceToNat, Int.reduceNeg]
        omega
  · obtain rfl : k = ss.length := by omega
    rw [h1 hj]
    simp -dsimp -implicitDefEqProofs (disch := first | omega | (simp only [List.length_append, List.length_cons, List.length_nil, List.length_take, List.length_drop]; omega)) only [hs, ↓aPre, aPost, oneW, allOne, retV, retVA, ↓reduceIte, reduceCtorEq, Nat.reduceAdd, Nat.reduceSub, Nat.reduceMul, Nat.reduceLT, Nat.reduceLeDiff, Nat.reduceEqDiff, Nat.reduceDiv, Nat.reduceMod, Nat.reducePow, Int.reduceAdd, Int.reduceSub, Int.reduceMul, Int.reduceLT, Int.reduceLE, Int.reduceEq, Int.reduceNe, Int.reducePow, Int.reduceToNat, Int.reduceNeg]
    exact post_eq rfl
theorem foldl_ok : ∀ (b : List Int) (o : List (List Int)) (c : List Int), okB b → b.foldl stp (o, c) = (o, c ++ b)
  | [], o, c, _ => by rw [List.foldl_nil, List.append_nil]
  | z :: b, o, c, h => by
    have hz := h z (by simp)
    rw [List.foldl_cons, stp, if_neg (by omega), foldl_ok b o _ (fun y hy => h y (by simp [hy]))]
    simp
theorem joK_fold {ss : List (List Int)} (h : okS ss) : ∀ k, k ≤ ss.length → (joK ss k).foldl stp ([], []) = (ss.take k, [])
  | 0, _ => by rw [joK, List.take_zero]; rfl
  | k + 1, hk => by
    have hlt : k < ss.length := by omega
    have ht : ss.take (k + 1) = ss.take k ++ [ss.getD k []] := by
      rw [List.take_add_one]
      simp only [List.getD, List.getElem?_eq_getElem hlt, Option.toList_some, Option.getD_some]
    rw [joK, List.foldl_append, joK_fold h k (by omega), List.foldl_append, foldl_ok _ _ _ (h k hlt), List.foldl_cons, List.foldl_nil, stp, if_pos rfl, ht, List.nil_append]
theorem joK_in {ss : List (List Int)} (h : okS ss) : ∀ k, k ≤ ss.length → ∀ z ∈ joK ss k, 0 ≤ z ∧ z ≤ 127
  | 0, _ => fun z hz => by cases hz
  | k + 1, hk => fun z hz => by
    rw [joK] at hz
    rcases List.mem_append.1 hz with hz | hz
    · exact joK_in h k (by omega) z hz
    · rcases List.mem_append.1 hz with hz | hz
      · have := h k (by omega) z hz; omega
      · rw [List.mem_singleton.1 hz]; omega
theorem join_split {ss : List (List Int)} (h : okS ss) : splitD (joK ss ss.length) = [.lst 1 (sl ss), .c (.int .i64 0)] := by
  have hf := joK_fold h ss.length (Nat.le_refl _)
  rw [List.take_length] at hf
  have hs := spK_all (joK ss ss.length)
  rw [hf] at hs
  have hlow : lowP (joK ss ss.length) := fun j hj => by
    have := joK_in h ss.length (Nat.le_refl _) ((joK ss ss.length).getD j 0) (by simp only [List.getD, List.getElem?_eq_getElem hj, Option.getD_some]; exact List.getElem_mem _)
    omega
  rw [splitD, if_pos hlow, hs, if_pos rfl]
theorem tot_joK (ss : List (List Int)) : ∀ k, k ≤ ss.length → (joK ss k).length = tot (ss.take k)
  | 0, _ => by rw [List.take_zero]; rfl
  | k + 1, hk => by
    have hlt : k < ss.length := by omega
    have ht : ss.take (k + 1) = ss.take k ++ [ss.getD k []] := by
      rw [List.take_add_one]
      simp only [List.getD, List.getElem?_eq_getElem hlt, Option.toList_some, Option.getD_some]
    rw [joK, List.length_append, tot_joK ss k (by omega), ht, tot_app, List.length_append]
    simp only [tot, List.length_singleton, Nat.add_zero]
end Go.Proofs.Ytfighiceodplnaa
