/- Which times there are; a number in so many digits; a time's text. No condition but what each says. -/
import Derived.Test.YtfighiceodplnaaDoorWOfT
import Derived.Test.YtfighiceodplnaaDoorWLib
set_option linter.unusedSimpArgs false
set_option linter.unusedVariables false
set_option maxRecDepth 8000
set_option maxHeartbeats 4000000
namespace Go.Proofs.YtfighiceodplnaaDoor
open Go.Eng Go.RowKit
/-- there is such a time -/
def rightP (y m d h mi s : Int) : Prop := (0 ≤ y ∧ y ≤ 9999) ∧ (1 ≤ m ∧ m ≤ 12) ∧ (1 ≤ d ∧ d ≤ dys y m) ∧ (0 ≤ h ∧ h ≤ 23) ∧ (0 ≤ mi ∧ mi ≤ 59) ∧ (0 ≤ s ∧ s ≤ 59)
theorem right_f (y m d h mi s : Int) (hn : ¬ rightP y m d h mi s) : Giv Tryd.prog 12 [tD y m d h mi s] (retV [.c (.bool false)]) := by
  refine Giv.of mixed c12 (Nat.le_of_ble_eq_true rfl) ?_
  by_cases t1 : ¬ 0 ≤ y
  · simp -dsimp -implicitDefEqProofs (disch := first | omega | (simp only [List.length_append, List.length_cons, List.length_nil, List.length_take, List.length_drop]; omega)) only [a12, tD, ↓aPre, aPost, oneW, allOne, retV, retVA, simprocAttr]
    exact post_eq rfl
  by_cases t2 : ¬ y ≤ 9999
  · simp -dsimp -implicitDefEqProofs (disch := first | omega | (simp only [List.length_append, List.length_cons, List.length_nil, List.length_take, List.length_drop]; omega)) only [a12, tD, ↓aPre, aPost, oneW, allOne, retV, retVA, simprocAttr]
    exact post_eq rfl
  by_cases t3 : ¬ 1 ≤ m
  · simp -dsimp -implicitDefEqProofs (disch := first | omega | (simp only [List.length_append, List.length_cons, List.length_nil, List.length_take, List.length_drop]; omega)) only [a12, tD, ↓aPre, aPost, oneW, allOne, retV, retVA, simprocAttr]
    exact post_eq rfl
  by_cases t4 : ¬ m ≤ 12
  · simp -dsimp -implicitDefEqProofs (disch := first | omega | (simp only [List.length_append, List.length_cons, List.length_nil, List.length_take, List.length_drop]; omega)) only [a12, tD, ↓aPre, aPost, oneW, allOne, retV, retVA, simprocAttr]
    exact post_eq rfl
  by_cases t5 : ¬ 1 ≤ d
  · simp -dsimp -implicitDefEqProofs (disch := first | omega | (simp only [List.length_append, List.length_cons, List.length_nil, List.length_take, List.length_drop]; omega)) only [a12, tD, ↓aPre, aPost, oneW, allOne, retV, retVA, simprocAttr]
    exact post_eq rfl
  have t1' := Decidable.not_not.1 t1
  have t2' := Decidable.not_not.1 t2
  have t3' := Decidable.not_not.1 t3
  have t4' := Decidable.not_not.1 t4
  have t5' := Decidable.not_not.1 t5
  clear t1 t2 t3 t4 t5
  have hdg := days_giv y m t1'
  obtain ⟨D, hD⟩ : ∃ D, D = dys y m := ⟨_, rfl⟩
  unfold rightP at hn
  rw [← hD] at hdg hn
  by_cases u1 : ¬ d ≤ D
  · simp -dsimp -implicitDefEqProofs (disch := first | omega | (simp only [List.length_append, List.length_cons, List.length_nil, List.length_take, List.length_drop]; omega)) only [a12, tD, ↓aPre, aPost, oneW, allOne, retV, retVA, simprocAttr]
    refine call_giv hdg ?_
    simp -dsimp -implicitDefEqProofs (disch := first | omega | (simp only [List.length_append, List.length_cons, List.length_nil, List.length_take, List.length_drop]; omega)) only [↓aPre, aPost, oneW, allOne, retV, retVA, simprocAttr]
    exact post_eq rfl
  by_cases u2 : ¬ 0 ≤ h
  · simp -dsimp -implicitDefEqProofs (disch := first | omega | (simp only [List.length_append, List.length_cons, List.length_nil, List.length_take, List.length_drop]; omega)) only [a12, tD, ↓aPre, aPost, oneW, allOne, retV, retVA, simprocAttr]
    refine call_giv hdg ?_
    simp -dsimp -implicitDefEqProofs (disch := first | omega | (simp only [List.length_append, List.length_cons, List.length_nil, List.length_take, List.length_drop]; omega)) only [↓aPre, aPost, oneW, allOne, retV, retVA, simprocAttr]
    exact post_eq rfl
  by_cases u3 : ¬ h ≤ 23
  · simp -dsimp -implicitDefEqProofs (disch := first | omega | (simp only [List.length_append, List.length_cons, List.length_nil, List.length_take, List.length_drop]; omega)) only [a12, tD, ↓aPre, aPost, oneW, allOne, retV, retVA, simprocAttr]
    refine call_giv hdg ?_
    simp -dsimp -implicitDefEqProofs (disch := first | omega | (simp only [List.length_append, List.length_cons, List.length_nil, List.length_take, List.length_drop]; omega)) only [↓aPre, aPost, oneW, allOne, retV, retVA, simprocAttr]
    exact post_eq rfl
  by_cases u4 : ¬ 0 ≤ mi
  · simp -dsimp -implicitDefEqProofs (disch := first | omega | (simp only [List.length_append, List.length_cons, List.length_nil, List.length_take, List.length_drop]; omega)) only [a12, tD, ↓aPre, aPost, oneW, allOne, retV, retVA, simprocAttr]
    refine call_giv hdg ?_
    simp -dsimp -implicitDefEqProofs (disch := first | omega | (simp only [List.length_append, List.length_cons, List.length_nil, List.length_take, List.length_drop]; omega)) only [↓aPre, aPost, oneW, allOne, retV, retVA, simprocAttr]
    exact post_eq rfl
  by_cases u5 : ¬ mi ≤ 59
  · simp -dsimp -implicitDefEqProofs (disch := first | omega | (simp only [List.length_append, List.length_cons, List.length_nil, List.length_take, List.length_drop]; omega)) only [a12, tD, ↓aPre, aPost, oneW, allOne, retV, retVA, simprocAttr]
    refine call_giv hdg ?_
    simp -dsimp -implicitDefEqProofs (disch := first | omega | (simp only [List.length_append, List.length_cons, List.length_nil, List.length_take, List.length_drop]; omega)) only [↓aPre, aPost, oneW, allOne, retV, retVA, simprocAttr]
    exact post_eq rfl
  by_cases u6 : ¬ 0 ≤ s
  · simp -dsimp -implicitDefEqProofs (disch := first | omega | (simp only [List.length_append, List.length_cons, List.length_nil, List.length_take, List.length_drop]; omega)) only [a12, tD, ↓aPre, aPost, oneW, allOne, retV, retVA, simprocAttr]
    refine call_giv hdg ?_
    simp -dsimp -implicitDefEqProofs (disch := first | omega | (simp only [List.length_append, List.length_cons, List.length_nil, List.length_take, List.length_drop]; omega)) only [↓aPre, aPost, oneW, allOne, retV, retVA, simprocAttr]
    exact post_eq rfl
  by_cases u7 : ¬ s ≤ 59
  · simp -dsimp -implicitDefEqProofs (disch := first | omega | (simp only [List.length_append, List.length_cons, List.length_nil, List.length_take, List.length_drop]; omega)) only [a12, tD, ↓aPre, aPost, oneW, allOne, retV, retVA, simprocAttr]
    refine call_giv hdg ?_
    simp -dsimp -implicitDefEqProofs (disch := first | omega | (simp only [List.length_append, List.length_cons, List.length_nil, List.length_take, List.length_drop]; omega)) only [↓aPre, aPost, oneW, allOne, retV, retVA, simprocAttr]
    exact post_eq rfl
  exact absurd ⟨⟨t1', t2'⟩, ⟨t3', t4'⟩, ⟨t5', by omega⟩, ⟨by omega, by omega⟩, ⟨by omega, by omega⟩, by omega, by omega⟩ hn
theorem number_f (y m d h mi s : Int) (hn : ¬ rightP y m d h mi s) : Giv Tryd.prog 10 [tD y m d h mi s] (retV [.c (.int .i64 0), .c (.int .i64 1)]) := by
  have hr := right_f y m d h mi s hn
  refine Giv.of mixed c10 (Nat.le_of_ble_eq_true rfl) ?_
  unfold tD at hr ⊢
  simp -dsimp -implicitDefEqProofs (disch := first | omega | (simp only [List.length_append, List.length_cons, List.length_nil, List.length_take, List.length_drop]; omega)) only [a10, ↓aPre, aPost, oneW, allOne, retV, retVA, simprocAttr]
  refine call_giv hr ?_
  simp -dsimp -implicitDefEqProofs (disch := first | omega | (simp only [List.length_append, List.length_cons, List.length_nil, List.length_take, List.length_drop]; omega)) only [↓aPre, aPost, oneW, allOne, retV, retVA, simprocAttr]
  exact post_eq rfl
theorem text_f (y m d h mi s : Int) (hn : ¬ rightP y m d h mi s) : Giv Tryd.prog 9 [tD y m d h mi s] (retV [.c (.string (strOfNums [])), .c (.int .i64 1)]) := by
  have hr := right_f y m d h mi s hn
  refine Giv.of mixed c9 (Nat.le_of_ble_eq_true rfl) ?_
  unfold tD at hr ⊢
  simp -dsimp -implicitDefEqProofs (disch := first | omega | (simp only [List.length_append, List.length_cons, List.length_nil, List.length_take, List.length_drop]; omega)) only [a9, ↓aPre, aPost, oneW, allOne, retV, retVA, simprocAttr]
  refine call_giv hr ?_
  simp -dsimp -implicitDefEqProofs (disch := first | omega | (simp only [List.length_append, List.length_cons, List.length_nil, List.length_take, List.length_drop]; omega)) only [↓aPre, aPost, oneW, allOne, retV, retVA, simprocAttr]
  exact post_eq rfl
theorem digs_giv (n w : Nat) (hw : w ≤ 4) (h : n < 10000) : Giv Tryd.prog 18 [.c (.int .i64 n), .c (.int .i64 w)] (retV [.c (.string (strOfNums (pad w n)))]) := by
  have hl := dec_len 3 n (by omega)
  have gi := itoa_giv n (by omega)
  have gr := rep_giv (w - (dec n).length) (by omega)
  have em : (if (w : Int) - ((dec n).length : Int) > 0 then (w : Int) - ((dec n).length : Int) else 0) = ((w - (dec n).length : Nat) : Int) := by split <;> omega
  unfold pad
  refine Giv.of mixed c18 (Nat.le_of_ble_eq_true rfl) ?_
  obtain ⟨L, hL⟩ : ∃ L, L = (dec n).length := ⟨_, rfl⟩
  have hL2 := hL.symm
  rw [← hL] at gr em hl ⊢
  obtain ⟨q, hq⟩ : ∃ q, q = w - L := ⟨_, rfl⟩
  rw [← hq] at gr em ⊢
  have hrl : (List.replicate q (48 : Int)).length = q := List.length_replicate
  simp -dsimp -implicitDefEqProofs (disch := first | omega | (simp only [List.length_append, List.length_cons, List.length_nil, List.length_take, List.length_drop]; omega)) only [a18, ↓aPre, aPost, oneW, allOne, retV, retVA, simprocAttr]
  refine call_giv gi ?_
  simp -dsimp -implicitDefEqProofs (disch := first | omega | (simp only [List.length_append, List.length_cons, List.length_nil, List.length_take, List.length_drop]; omega)) only [hL2, em, ↓aPre, aPost, oneW, allOne, retV, retVA, simprocAttr]
  refine call_giv gr ?_
  simp -dsimp -implicitDefEqProofs (disch := first | omega | (simp only [List.length_append, List.length_cons, List.length_nil, List.length_take, List.length_drop]; omega)) only [hL2, hrl, ↓aPre, aPost, oneW, allOne, retV, retVA, simprocAttr]
  exact post_eq rfl
theorem two_giv (n : Nat) (h : n < 10000) : Giv Tryd.prog 17 [.c (.int .i64 n)] (retV [.c (.string (strOfNums (pad 2 n)))]) := by
  refine Giv.of mixed c17 (Nat.le_of_ble_eq_true rfl) ?_
  simp -dsimp -implicitDefEqProofs (disch := first | omega | (simp only [List.length_append, List.length_cons, List.length_nil, List.length_take, List.length_drop]; omega)) only [a17, ↓aPre, aPost, oneW, allOne, retV, retVA, simprocAttr]
  refine call_giv (digs_giv n 2 (by decide) h) ?_
  simp -dsimp -implicitDefEqProofs (disch := first | omega | (simp only [List.length_append, List.length_cons, List.length_nil, List.length_take, List.length_drop]; omega)) only [↓aPre, aPost, oneW, allOne, retV, retVA, simprocAttr]
  exact post_eq rfl
theorem text_t (y m d h mi s : Nat) (hr : rightP y m d h mi s) : Giv Tryd.prog 9 [tD y m d h mi s] (retV [.c (.string (strOfNums (txt y m d h mi s))), .c (.int .i64 0)]) := by
  obtain ⟨r1, r2, r3, r4, r5, r6⟩ := hr
  have gr := right_t y m d h mi s r1 r2 r3 r4 r5 r6
  have hdb := dys_b y m
  have g1 := digs_giv y 4 (by decide) (by omega)
  have g2 := two_giv m (by omega)
  have g3 := two_giv d (by omega)
  have g4 := two_giv h (by omega)
  have g5 := two_giv mi (by omega)
  have g6 := two_giv s (by omega)
  have p1 := pad_len (w := 3) (n := y) (by omega)
  have p2 := pad_len (w := 1) (n := m) (by omega)
  have p3 := pad_len (w := 1) (n := d) (by omega)
  have p4 := pad_len (w := 1) (n := h) (by omega)
  have p5 := pad_len (w := 1) (n := mi) (by omega)
  have p6 := pad_len (w := 1) (n := s) (by omega)
  dsimp only [Nat.reduceAdd] at p1 p2 p3 p4 p5 p6
  refine Giv.of mixed c9 (Nat.le_of_ble_eq_true rfl) ?_
  unfold tD at gr ⊢
  unfold txt
  simp -dsimp -implicitDefEqProofs (disch := first | omega | (simp only [List.length_append, List.length_cons, List.length_nil, List.length_take, List.length_drop]; omega)) only [a9, ↓aPre, aPost, oneW, allOne, retV, retVA, simprocAttr]
  refine call_giv gr ?_
  simp -dsimp -implicitDefEqProofs (disch := first | omega | (simp only [List.length_append, List.length_cons, List.length_nil, List.length_take, List.length_drop]; omega)) only [↓aPre, aPost, oneW, allOne, retV, retVA, simprocAttr]
  refine call_giv g1 ?_
  simp -dsimp -implicitDefEqProofs (disch := first | omega | (simp only [List.length_append, List.length_cons, List.length_nil, List.length_take, List.length_drop]; omega)) only [↓aPre, aPost, oneW, allOne, retV, retVA, simprocAttr]
  refine call_giv g2 ?_
  simp -dsimp -implicitDefEqProofs (disch := first | omega | (simp only [List.length_append, List.length_cons, List.length_nil, List.length_take, List.length_drop]; omega)) only [p1, p2, ↓aPre, aPost, oneW, allOne, retV, retVA, simprocAttr]
  refine call_giv g3 ?_
  simp -dsimp -implicitDefEqProofs (disch := first | omega | (simp only [List.length_append, List.length_cons, List.length_nil, List.length_take, List.length_drop]; omega)) only [p1, p2, p3, ↓aPre, aPost, oneW, allOne, retV, retVA, simprocAttr]
  refine call_giv g4 ?_
  simp -dsimp -implicitDefEqProofs (disch := first | omega | (simp only [List.length_append, List.length_cons, List.length_nil, List.length_take, List.length_drop]; omega)) only [p1, p2, p3, p4, ↓aPre, aPost, oneW, allOne, retV, retVA, simprocAttr]
  refine call_giv g5 ?_
  simp -dsimp -implicitDefEqProofs (disch := first | omega | (simp only [List.length_append, List.length_cons, List.length_nil, List.length_take, List.length_drop]; omega)) only [p1, p2, p3, p4, p5, ↓aPre, aPost, oneW, allOne, retV, retVA, simprocAttr]
  refine call_giv g6 ?_
  simp -dsimp -implicitDefEqProofs (disch := first | omega | (simp only [List.length_append, List.length_cons, List.length_nil, List.length_take, List.length_drop]; omega)) only [p1, p2, p3, p4, p5, p6, ↓aPre, aPost, oneW, allOne, retV, retVA, simprocAttr]
  refine post_eq ?_
  simp only [List.append_assoc, List.singleton_append, List.cons_append, List.nil_append]
end Go.Proofs.YtfighiceodplnaaDoor
