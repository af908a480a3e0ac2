/- The texts of any values (as in the seat of ascii). No condition but what each says. -/
import Derived.Test.YthbdglibakjfbaaDoorWRR
set_option linter.unusedSimpArgs false
set_option linter.unusedVariables false
set_option maxRecDepth 8000
set_option maxHeartbeats 4000000
set_option linter.unusedSectionVars false
namespace Go.Proofs.YthbdglibakjfbaaDoor
open Go.Eng Go.RowKit
variable [Inhabited Lo]
def a23 : AFn := ⟨35, (.seq (.ops [⟨(.some 2), (.mov (.const (.slice .none 0 0))), .none⟩, ⟨(.some 3), (.mov (.const (.int .i64 0))), .none⟩]) (.seq (.ops [⟨(.some 4), (.mov (.const (.slice .none 0 0))), .none⟩]) (.seq (.ops [⟨(.some 5), (.mov (.const (.slice .none 0 0))), .none⟩]) (.seq (.seq (.ops [⟨(.some 8), (.mov (.tmp 0)), .none⟩, ⟨(.some 9), (.len (.tmp 8)), .none⟩, ⟨(.some 10), (.mov (.const (.int .i64 0))), .none⟩]) (.block 0 (.loop (.seq (.ops [⟨(.some 11), (.bin .lss (.tmp 10) (.tmp 9)), .none⟩]) (.seq (.cond (.tmp 11) .skip (.exit 0)) (.seq (.block 1 (.seq (.ops [⟨(.some 12), (.iadr 1 (.tmp 8) (.tmp 10)), .none⟩, ⟨(.some 13), (.ld (.tmp 12)), .none⟩, ⟨(.some 7), (.mov (.tmp 13)), .none⟩]) (.block 2 (.seq (.ops [⟨(.some 20), (.mov (.tmp 7)), .none⟩, ⟨(.some 21), (.bin .gtr (.tmp 20) (.const (.int .u64 127))), .none⟩, ⟨(.some 19), (.mov (.tmp 21)), .none⟩]) (.cond (.tmp 19) (.seq (.ops [⟨(.some 2), (.mov (.const (.slice .none 0 0))), .none⟩, ⟨(.some 3), (.mov (.const (.int .i64 3))), .none⟩]) .ret) (.seq (.ops [⟨(.some 23), (.mov (.tmp 7)), .none⟩, ⟨(.some 24), (.bin .eql (.tmp 23) (.const (.int .u64 0))), .none⟩, ⟨(.some 22), (.mov (.tmp 24)), .none⟩]) (.cond (.tmp 22) (.seq (.ops [⟨(.some 25), (.mov (.tmp 4)), .none⟩, ⟨(.some 26), (.mov (.tmp 5)), .none⟩, ⟨(.some 27), (.cvS (.tmp 26)), .none⟩, ⟨(.some 28), (.lit 1 [(.tmp 27)]), .none⟩, ⟨(.some 29), (.app 29 1 16 (.tmp 25) (.tmp 28)), .none⟩, ⟨(.some 4), (.mov (.tmp 29)), .none⟩]) (.ops [⟨(.some 5), (.mov (.const (.slice .none 0 0))), .none⟩])) (.ops [⟨(.some 14), (.mov (.tmp 5)), .none⟩, ⟨(.some 15), (.mov (.tmp 7)), .none⟩, ⟨(.some 16), (.cvI .u8 (.tmp 15)), .none⟩, ⟨(.some 17), (.lit 1 [(.tmp 16)]), .none⟩, ⟨(.some 18), (.app 18 1 1 (.tmp 14) (.tmp 17)), .none⟩, ⟨(.some 5), (.mov (.tmp 18)), .none⟩])))))))) (.ops [⟨(.some 30), (.bin .add (.tmp 10) (.const (.int .i64 1))), .none⟩, ⟨(.some 10), (.mov (.tmp 30)), .none⟩]))))))) (.seq (.seq (.ops [⟨(.some 31), (.mov (.tmp 5)), .none⟩, ⟨(.some 32), (.len (.tmp 31)), .none⟩, ⟨(.some 33), (.bin .gtr (.tmp 32) (.const (.int .i64 0))), .none⟩]) (.cond (.tmp 33) (.seq (.ops [⟨(.some 2), (.mov (.const (.slice .none 0 0))), .none⟩, ⟨(.some 3), (.mov (.const (.int .i64 2))), .none⟩]) .ret) .skip)) (.seq (.ops [⟨(.some 34), (.mov (.tmp 4)), .none⟩, ⟨(.some 2), (.mov (.tmp 34)), .none⟩, ⟨(.some 3), (.mov (.const (.int .i64 0))), .none⟩]) .ret)))))), [(2, .none), (3, .none)]⟩
theorem c23 : cmpF Tryd.prog [] [] 23 = some a23 := by kernel_rfl
def a27 : AFn := ⟨56, (.seq (.ops [⟨(.some 2), (.mov (.const (.slice .none 0 0))), .none⟩, ⟨(.some 3), (.mov (.const (.int .i64 0))), .none⟩]) (.seq (.seq (.ops [⟨(.some 4), (.mov (.const (.int .i64 0))), .none⟩]) (.block 0 (.loop (.seq (.seq (.ops [⟨(.some 8), (.mov (.tmp 4)), .none⟩, ⟨(.some 9), (.mov (.tmp 0)), .none⟩, ⟨(.some 10), (.len (.tmp 9)), .none⟩, ⟨(.some 11), (.bin .lss (.tmp 8) (.tmp 10)), .none⟩]) (.cond (.tmp 11) .skip (.exit 0))) (.seq (.block 1 (.seq (.ops [⟨(.some 14), (.mov (.tmp 0)), .none⟩, ⟨(.some 15), (.mov (.tmp 4)), .none⟩, ⟨(.some 16), (.iadr 1 (.tmp 14) (.tmp 15)), .none⟩, ⟨(.some 17), (.ld (.tmp 16)), .none⟩, ⟨(.some 18), (.bin .gtr (.tmp 17) (.const (.int .u64 127))), .none⟩]) (.cond (.tmp 18) (.seq (.ops [⟨(.some 2), (.mov (.const (.slice .none 0 0))), .none⟩, ⟨(.some 3), (.mov (.const (.int .i64 3))), .none⟩]) .ret) .skip))) (.ops [⟨(.some 12), (.mov (.tmp 4)), .none⟩, ⟨(.some 13), (.bin .add (.tmp 12) (.const (.int .i64 1))), .none⟩, ⟨(.some 4), (.mov (.tmp 13)), .none⟩])))))) (.seq (.seq (.ops [⟨(.some 19), (.mov (.tmp 0)), .none⟩, ⟨(.some 20), (.len (.tmp 19)), .none⟩, ⟨(.some 21), (.bin .gtr (.tmp 20) (.const (.int .i64 0))), .none⟩, ⟨(.some 22), (.mov (.tmp 21)), .none⟩, ⟨(.some 23), (.mov (.tmp 0)), (.some (22, true))⟩, ⟨(.some 24), (.mov (.tmp 0)), (.some (22, true))⟩, ⟨(.some 25), (.len (.tmp 24)), (.some (22, true))⟩, ⟨(.some 26), (.bin .sub (.tmp 25) (.const (.int .i64 1))), (.some (22, true))⟩, ⟨(.some 27), (.iadr 1 (.tmp 23) (.tmp 26)), (.some (22, true))⟩, ⟨(.some 28), (.ld (.tmp 27)), (.some (22, true))⟩, ⟨(.some 29), (.bin .neq (.tmp 28) (.const (.int .u64 0))), (.some (22, true))⟩, ⟨(.some 30), (.pick (.tmp 22) (.tmp 29) (.const (.bool false))), .none⟩]) (.cond (.tmp 30) (.seq (.ops [⟨(.some 2), (.mov (.const (.slice .none 0 0))), .none⟩, ⟨(.some 3), (.mov (.const (.int .i64 2))), .none⟩]) .ret) .skip)) (.seq (.ops [⟨(.some 5), (.mov (.const (.slice .none 0 0))), .none⟩]) (.seq (.ops [⟨(.some 6), (.mov (.const (.string (strOfNums [])))), .none⟩]) (.seq (.seq (.ops [⟨(.some 7), (.mov (.const (.int .i64 0))), .none⟩]) (.block 2 (.loop (.seq (.seq (.ops [⟨(.some 31), (.mov (.tmp 7)), .none⟩, ⟨(.some 32), (.mov (.tmp 0)), .none⟩, ⟨(.some 33), (.len (.tmp 32)), .none⟩, ⟨(.some 34), (.bin .lss (.tmp 31) (.tmp 33)), .none⟩]) (.cond (.tmp 34) .skip (.exit 2))) (.seq (.block 3 (.seq (.ops [⟨(.some 37), (.mov (.tmp 0)), .none⟩, ⟨(.some 38), (.mov (.tmp 7)), .none⟩, ⟨(.some 39), (.iadr 1 (.tmp 37) (.tmp 38)), .none⟩, ⟨(.some 40), (.ld (.tmp 39)), .none⟩, ⟨(.some 41), (.bin .eql (.tmp 40) (.const (.int .u64 0))), .none⟩]) (.cond (.tmp 41) (.seq (.ops [⟨(.some 42), (.mov (.tmp 5)), .none⟩, ⟨(.some 43), (.mov (.tmp 6)), .none⟩, ⟨(.some 44), (.lit 1 [(.tmp 43)]), .none⟩, ⟨(.some 45), (.app 45 1 16 (.tmp 42) (.tmp 44)), .none⟩, ⟨(.some 5), (.mov (.tmp 45)), .none⟩]) (.ops [⟨(.some 6), (.mov (.const (.string (strOfNums [])))), .none⟩])) (.ops [⟨(.some 46), (.mov (.tmp 6)), .none⟩, ⟨(.some 47), (.mov (.tmp 0)), .none⟩, ⟨(.some 48), (.mov (.tmp 7)), .none⟩, ⟨(.some 49), (.iadr 1 (.tmp 47) (.tmp 48)), .none⟩, ⟨(.some 50), (.ld (.tmp 49)), .none⟩, ⟨(.some 51), (.cvI .u8 (.tmp 50)), .none⟩, ⟨(.some 52), (.lit 1 [(.tmp 51)]), .none⟩, ⟨(.some 53), (.cvS (.tmp 52)), .none⟩, ⟨(.some 54), (.bin .add (.tmp 46) (.tmp 53)), .none⟩, ⟨(.some 6), (.mov (.tmp 54)), .none⟩])))) (.ops [⟨(.some 35), (.mov (.tmp 7)), .none⟩, ⟨(.some 36), (.bin .add (.tmp 35) (.const (.int .i64 1))), .none⟩, ⟨(.some 7), (.mov (.tmp 36)), .none⟩])))))) (.seq (.ops [⟨(.some 55), (.mov (.tmp 5)), .none⟩, ⟨(.some 2), (.mov (.tmp 55)), .none⟩, ⟨(.some 3), (.mov (.const (.int .i64 0))), .none⟩]) .ret))))))), [(2, .none), (3, .none)]⟩
theorem c27 : cmpF Tryd.prog [] [] 27 = some a27 := by kernel_rfl
/-- texts as lists of numbers -/
def sl (ss : List (List Int)) : List D := ss.map fun b => .c (.string (strOfNums b))
theorem sl_len (ss : List (List Int)) : (sl ss).length = ss.length := List.length_map ..
theorem sl_app (a b : List (List Int)) : sl a ++ sl b = sl (a ++ b) := (List.map_append ..).symm
theorem sl_one (b : List Int) : [D.c (.string (strOfNums b))] = sl [b] := rfl
theorem sl_get (ss : List (List Int)) {k : Nat} (h : k < ss.length) : (sl ss).getD k default = .c (.string (strOfNums (ss.getD k []))) := by
  simp only [sl, List.getD, List.getElem?_map, List.getElem?_eq_getElem h, Option.map_some, Option.getD_some]
def stp (st : List (List Int) × List Int) (v : Int) : List (List Int) × List Int := if v = 0 then (st.1 ++ [st.2], []) else (st.1, st.2 ++ [v])
def spK (l : List Int) : Nat → List (List Int) × List Int
  | 0 => ([], [])
  | k + 1 => stp (spK l k) (l.getD k 0)
theorem spK_fold (l : List Int) : ∀ k, k ≤ l.length → spK l k = (l.take k).foldl stp ([], [])
  | 0, _ => by rw [List.take_zero]; rfl
  | k + 1, h => by rw [spK, spK_fold l k (by omega), take_at (by omega), List.foldl_append]; rfl
theorem spK_all (l : List Int) : spK l l.length = l.foldl stp ([], []) := by
  rw [spK_fold l _ (Nat.le_refl _), List.take_length]
def tot : List (List Int) → Nat
  | [] => 0
  | b :: ss => b.length + 1 + tot ss
theorem tot_app : ∀ a b, tot (a ++ b) = tot a + tot b
  | [], b => by simp [tot]
  | x :: a, b => by rw [List.cons_append, tot, tot, tot_app a b]; omega
def okB (b : List Int) : Prop := ∀ z ∈ b, 0 < z ∧ z ≤ 127
theorem okB.bytes {b : List Int} (h : okB b) : Bytes b := fun z hz => by have := h z hz; omega
theorem spK_inv {l : List Int} (h : ∀ j, j < l.length → 0 ≤ l.getD j 0 ∧ l.getD j 0 ≤ 127) : ∀ k, k ≤ l.length → tot (spK l k).1 + (spK l k).2.length = k ∧ (∀ b ∈ (spK l k).1, okB b) ∧ okB (spK l k).2
  | 0, _ => ⟨rfl, (by intro b hb; cases hb), (by intro z hz; cases hz)⟩
  | k + 1, hk => by
    obtain ⟨h1, h2, h3⟩ := spK_inv h k (by omega)
    have hz := h k (by omega)
    rw [spK, stp]
    by_cases c : l.getD k 0 = 0
    · rw [if_pos c]
      refine ⟨?_, ?_, (by intro z hz; cases hz)⟩
      · simp only [tot_app, tot, List.length_nil]; omega
      · intro b hb
        rcases List.mem_append.1 hb with hb | hb
        · exact h2 b hb
        · rw [List.mem_singleton.1 hb]; exact h3
    · rw [if_neg c]
      refine ⟨?_, h2, ?_⟩
      · simp only [List.length_append, List.length_singleton]; omega
      · intro z hz'
        rcases List.mem_append.1 hz' with hz' | hz'
        · exact h3 z hz'
        · rw [List.mem_singleton.1 hz']; omega
def lowP (l : List Int) : Prop := ∀ j, j < l.length → l.getD j 0 ≤ 127
instance (l : List Int) : Decidable (lowP l) := by unfold lowP; infer_instance
def splitD (l : List Int) : List D := if lowP l then (if (spK l l.length).2 = [] then [.lst 1 (sl (spK l l.length).1), .c (.int .i64 0)] else [.lst 1 [], .c (.int .i64 2)]) else [.lst 1 [], .c (.int .i64 3)]
theorem lenb {l : List Int} (h : In 18446744073709551616 l) (hl : ∀ j, j < l.length → l.getD j 0 ≤ 127) : ∀ j, j < l.length → 0 ≤ l.getD j 0 ∧ l.getD j 0 ≤ 127 := fun j hj => ⟨(h.get (by decide) j).1, hl j hj⟩
theorem spK_b (l : List Int) : ∀ k, (spK l k).1.length + (spK l k).2.length ≤ k
  | 0 => Nat.le_refl _
  | k + 1 => by
    have := spK_b l k
    rw [spK, stp]
    split
    · simp only [List.length_append, List.length_singleton, List.length_nil]; omega
    · simp only [List.length_append, List.length_singleton]; omega
theorem split_giv (l : List Int) (hl : l.length ≤ 100000) (hU : In 18446744073709551616 l) : Giv Tryd.prog 23 [.lst 1 (li .u64 l)] (retV (splitD l)) := by
  refine Giv.of mixed c23 (Nat.le_of_ble_eq_true rfl) ?_
  simp -dsimp -implicitDefEqProofs (disch := first | omega | (simp only [List.length_append, List.length_cons, List.length_nil, List.length_take, List.length_drop]; omega)) only [a23, ↓aPre, aPost, oneW, allOne, retV, retVA, simprocAttr]
  refine loop_nil 4 100 1 (fun s => ∃ (k : Nat), k ≤ l.length ∧ (∀ j, j < k → l.getD j 0 ≤ 127) ∧ s.tm 10 = .d (.c (.int .i64 k)) ∧ s.tm 9 = .d (.c (.int .i64 l.length)) ∧ s.tm 8 = .d (.lst 1 (li .u64 l)) ∧ s.tm 4 = .sl 100 1 0 (spK l k).1.length ∧ s.hp 100 = some (.row 1 (sl (spK l k).1)) ∧ ((s.tm 5 = .d (.c (.slice none 0 0)) ∧ (spK l k).2 = []) ∨ (s.tm 5 = .sl 18 1 0 (spK l k).2.length ∧ s.hp 18 = some (.row 1 (li .u8 (spK l k).2)) ∧ ¬ (spK l k).2.length = 0))) (fun s => l.length - (avN (s.tm 10)).toNat) ?_ (by decide) ?_ ?_
  · simp -dsimp -implicitDefEqProofs (disch := first | omega | (simp only [List.length_append, List.length_cons, List.length_nil, List.length_take, List.length_drop]; omega)) only [↓aPre, aPost, oneW, allOne, retV, retVA, simprocAttr]
  · refine ⟨0, Nat.zero_le _, fun j hj => by omega, ?_⟩
    have e0 : (spK l 0).1 = [] := rfl
    have e1 : sl ([] : List (List Int)) = [] := rfl
    refine ⟨?_, ?_, ?_, ?_, ?_, .inl ⟨?_, rfl⟩⟩
    all_goals
      simp -dsimp -implicitDefEqProofs (disch := first | omega | (simp only [List.length_append, List.length_cons, List.length_nil, List.length_take, List.length_drop]; omega)) only [e0, e1, Int.natCast_zero, ↓aPre, aPost, oneW, allOne, retV, retVA, simprocAttr]
  rintro s ⟨k, hk, hj, h10, h9, h8, h4, h100, h5⟩
  have hb := spK_b l k
  have el := sl_len (spK l k).1
  by_cases hlt : k < l.length
  · have hz := hU.get (by decide) k
    by_cases hv : 127 < l.getD k 0
    · have hn : ¬ lowP l := fun h => by have := h k hlt; omega
      rw [splitD, if_neg hn]
      simp -dsimp -implicitDefEqProofs (disch := first | omega | (simp only [List.length_append, List.length_cons, List.length_nil, List.length_take, List.length_drop]; omega)) only [h10, h9, h8, ↓aPre, aPost, oneW, allOne, retV, retVA, simprocAttr]
      exact post_nil (leD_refl _)
    · have hj' : ∀ j, j < k + 1 → l.getD j 0 ≤ 127 := fun j h => by
        rcases Nat.lt_or_eq_of_le (Nat.le_of_lt_succ h) with h | rfl
        · exact hj j h
        · omega
      by_cases h0 : l.getD k 0 = 0
      · have es1 : (spK l (k + 1)).1 = (spK l k).1 ++ [(spK l k).2] := by rw [spK, stp, if_pos h0]
        have es2 : (spK l (k + 1)).2 = [] := by rw [spK, stp, if_pos h0]
        have el1 : (spK l (k + 1)).1.length = (spK l k).1.length + 1 := by rw [es1, List.length_append]; rfl
        rcases h5 with ⟨h5, h5b⟩ | ⟨h5, h18, h5b⟩
        · simp -dsimp -implicitDefEqProofs (disch := first | omega | (simp only [List.length_append, List.length_cons, List.length_nil, List.length_take, List.length_drop]; omega)) only [h10, h9, h8, h4, h100, h5, h0, el, ↓aPre, aPost, oneW, allOne, retV, retVA, simprocAttr]
          refine round_of ⟨k + 1, by omega, hj', ?_, ?_, ?_, ?_, ?_, .inl ⟨?_, es2⟩⟩ ?_
          all_goals
            simp -dsimp -implicitDefEqProofs (disch := first | omega | (simp only [List.length_append, List.length_cons, List.length_nil, List.length_take, List.length_drop]; omega)) only [h10, h9, h8, h4, h100, h5, h0, el, el1, ↓aPre, aPost, oneW, allOne, retV, retVA, simprocAttr]
            try (rw [es1, h5b, ← sl_app]; rfl)
            try omega
        · simp -dsimp -implicitDefEqProofs (disch := first | omega | (simp only [List.length_append, List.length_cons, List.length_nil, List.length_take, List.length_drop]; omega)) only [h10, h9, h8, h4, h100, h5, h18, h0, el, ↓aPre, aPost, oneW, allOne, retV, retVA, simprocAttr]
          refine round_of ⟨k + 1, by omega, hj', ?_, ?_, ?_, ?_, ?_, .inl ⟨?_, es2⟩⟩ ?_
          all_goals
            simp -dsimp -implicitDefEqProofs (disch := first | omega | (simp only [List.length_append, List.length_cons, List.length_nil, List.length_take, List.length_drop]; omega)) only [h10, h9, h8, h4, h100, h5, h18, h0, el, el1, ↓aPre, aPost, oneW, allOne, retV, retVA, simprocAttr]
            try (rw [es1, ← sl_app]; rfl)
            try omega
      · have es1 : (spK l (k + 1)).1 = (spK l k).1 := by rw [spK, stp, if_neg h0]
        have es2 : (spK l (k + 1)).2 = (spK l k).2 ++ [l.getD k 0] := by rw [spK, stp, if_neg h0]
        rcases h5 with ⟨h5, h5b⟩ | ⟨h5, h18, h5b⟩
        · rw [h5b, List.nil_append] at es2
          simp -dsimp -implicitDefEqProofs (disch := first | omega | (simp only [List.length_append, List.length_cons, List.length_nil, List.length_take, List.length_drop]; omega)) only [h10, h9, h8, h4, h100, h5, ibeq_f h0, h0, ↓aPre, aPost, oneW, allOne, retV, retVA, simprocAttr]
          refine round_of ⟨k + 1, by omega, hj', ?_, ?_, ?_, ?_, ?_, .inr ⟨?_, ?_, by rw [es2]; simp⟩⟩ ?_
          all_goals
            simp -dsimp -implicitDefEqProofs (disch := first | omega | (simp only [List.length_append, List.length_cons, List.length_nil, List.length_take, List.length_drop]; omega)) only [h10, h9, h8, h4, h100, h5, ibeq_f h0, h0, es1, es2, ↓aPre, aPost, oneW, allOne, retV, retVA, simprocAttr]
            try omega
        · simp -dsimp -implicitDefEqProofs (disch := first | omega | (simp only [List.length_append, List.length_cons, List.length_nil, List.length_take, List.length_drop]; omega)) only [h10, h9, h8, h4, h100, h5, h18, ibeq_f h0, h0, ↓aPre, aPost, oneW, allOne, retV, retVA, simprocAttr]
          refine round_of ⟨k + 1, by omega, hj', ?_, ?_, ?_, ?_, ?_, .inr ⟨?_, ?_, by rw [es2]; simp⟩⟩ ?_
          all_goals
            simp -dsimp -implicitDefEqProofs (disch := first | omega | (simp only [List.length_append, List.length_cons, List.length_nil, List.length_take, List.length_drop]; omega)) only [h10, h9, h8, h4, h100, h5, h18, ibeq_f h0, h0, es1, es2, ↓aPre, aPost, oneW, allOne, retV, retVA, simprocAttr]
            try omega
  · obtain rfl : k = l.length := by omega
    have hlow : lowP l := hj
    rcases h5 with ⟨h5, h5b⟩ | ⟨h5, h18, h5b⟩
    · rw [splitD, if_pos hlow, if_pos h5b]
      simp -dsimp -implicitDefEqProofs (disch := first | omega | (simp only [List.length_append, List.length_cons, List.length_nil, List.length_take, List.length_drop]; omega)) only [h10, h9, h8, h4, h100, h5, el, ↓aPre, aPost, oneW, allOne, retV, retVA, simprocAttr]
      refine post_eq ?_
      first | rfl | rw [List.take_of_length_le (by rw [el]; exact Nat.le_refl _)]
    · rw [splitD, if_pos hlow, if_neg (fun h => h5b (by rw [h]; rfl))]
      have hne : 0 < (spK l l.length).2.length := by omega
      simp -dsimp -implicitDefEqProofs (disch := first | omega | (simp only [List.length_append, List.length_cons, List.length_nil, List.length_take, List.length_drop]; omega)) only [h10, h9, h8, h4, h100, h5, h18, ↓aPre, aPost, oneW, allOne, retV, retVA, simprocAttr]
      exact post_nil (leD_refl _)
theorem sp_last (l : List Int) (k : Nat) : (spK l (k + 1)).2 = [] ↔ l.getD k 0 = 0 := by
  rw [spK, stp]
  split
  · rename_i h; exact ⟨fun _ => h, fun _ => rfl⟩
  · rename_i h; exact ⟨fun e => by simp at e, fun e => (h e).elim⟩
theorem rsplit_giv (l : List Int) (hl : l.length ≤ 100000) (hU : In 18446744073709551616 l) : Giv Tryd.prog 27 [.lst 1 (li .u64 l)] (retV (splitD l)) := by
  refine Giv.of mixed c27 (Nat.le_of_ble_eq_true rfl) ?_
  simp -dsimp -implicitDefEqProofs (disch := first | omega | (simp only [List.length_append, List.length_cons, List.length_nil, List.length_take, List.length_drop]; omega)) only [a27, ↓aPre, aPost, oneW, allOne, retV, retVA, simprocAttr]
  refine loop_of (fun s => ∃ (k : Nat), k ≤ l.length ∧ (∀ j, j < k → l.getD j 0 ≤ 127) ∧ s.tm 4 = .d (.c (.int .i64 k)) ∧ s.tm 0 = .d (.lst 1 (li .u64 l))) (fun s => l.length - (avN (s.tm 4)).toNat) ?_ ?_
  · refine ⟨0, Nat.zero_le _, fun j hj => by omega, ?_⟩
    simp -dsimp -implicitDefEqProofs (disch := first | omega | (simp only [List.length_append, List.length_cons, List.length_nil, List.length_take, List.length_drop]; omega)) only [Int.natCast_zero, ↓aPre, aPost, oneW, allOne, retV, retVA, simprocAttr]
  rintro s ⟨k, hk, hj, hs⟩
  by_cases hlt : k < l.length
  · have hz := hU.get (by decide) k
    by_cases hv : 127 < l.getD k 0
    · have hn : ¬ lowP l := fun h => by have := h k hlt; omega
      rw [splitD, if_neg hn]
      simp -dsimp -implicitDefEqProofs (disch := first | omega | (simp only [List.length_append, List.length_cons, List.length_nil, List.length_take, List.length_drop]; omega)) only [hs, ↓aPre, aPost, oneW, allOne, retV, retVA, simprocAttr]
      exact post_nil (leD_refl _)
    · simp -dsimp -implicitDefEqProofs (disch := first | omega | (simp only [List.length_append, List.length_cons, List.length_nil, List.length_take, List.length_drop]; omega)) only [hs, ↓aPre, aPost, oneW, allOne, retV, retVA, simprocAttr]
      refine round_of ⟨k + 1, by omega, fun j h => ?_, ?_⟩ ?_
      · rcases Nat.lt_or_eq_of_le (Nat.le_of_lt_succ h) with h | rfl
        · exact hj j h
        · omega
      · simp -dsimp -implicitDefEqProofs (disch := first | omega | (simp only [List.length_append, List.length_cons, List.length_nil, List.length_take, List.length_drop]; omega)) only [hs, ↓aPre, aPost, oneW, allOne, retV, retVA, simprocAttr]
      · simp -dsimp -implicitDefEqProofs (disch := first | omega | (simp only [List.length_append, List.length_cons, List.length_nil, List.length_take, List.length_drop]; omega)) only [hs, ↓aPre, aPost, oneW, allOne, retV, retVA, simprocAttr]
        omega
  · obtain rfl : k = l.length := by omega
    have hlow : lowP l := hj
    rw [splitD, if_pos hlow]
    by_cases hlast : 0 < l.length ∧ ¬ l.getD (l.length - 1) 0 = 0
    · have e1 : ((l.length : Int) - 1).toNat = l.length - 1 := by omega
      have hl1 := hlast.1
      have hsp := sp_last l (l.length - 1)
      rw [show l.length - 1 + 1 = l.length by omega] at hsp
      rw [if_neg (fun h => hlast.2 (hsp.1 h))]
      simp -dsimp -implicitDefEqProofs (disch := first | omega | (simp only [List.length_append, List.length_cons, List.length_nil, List.length_take, List.length_drop]; omega)) only [hs, e1, ibne_t hlast.2, ↓aPre, aPost, oneW, allOne, retV, retVA, simprocAttr]
      exact post_nil (leD_refl _)
    · have hem : (spK l l.length).2 = [] := by
        rcases Nat.eq_zero_or_pos l.length with h | h
        · rw [h]; rfl
        · have hsp := sp_last l (l.length - 1)
          rw [show l.length - 1 + 1 = l.length by omega] at hsp
          exact hsp.2 (Decidable.byContradiction fun hh => hlast ⟨h, hh⟩)
      rw [if_pos hem]
      have main : ∀ (s : St), True := fun _ => trivial
      rcases Nat.eq_zero_or_pos l.length with h0 | h0
      · obtain rfl : l = [] := List.eq_nil_of_length_eq_zero h0
        simp -dsimp -implicitDefEqProofs (disch := first | omega | (simp only [List.length_append, List.length_cons, List.length_nil, List.length_take, List.length_drop]; omega)) only [hs, ↓aPre, aPost, oneW, allOne, retV, retVA, simprocAttr]
        refine loop_of (fun s => s.tm 7 = .d (.c (.int .i64 0)) ∧ s.tm 0 = .d (.lst 1 (li .u64 [])) ∧ s.tm 5 = .d (.c (.slice none 0 0))) (fun s => 0) ?_ ?_
        · simp -dsimp -implicitDefEqProofs (disch := first | omega | (simp only [List.length_append, List.length_cons, List.length_nil, List.length_take, List.length_drop]; omega)) only [hs, ↓aPre, aPost, oneW, allOne, retV, retVA, simprocAttr]
        rintro s2 hs2
        simp -dsimp -implicitDefEqProofs (disch := first | omega | (simp only [List.length_append, List.length_cons, List.length_nil, List.length_take, List.length_drop]; omega)) only [hs2, ↓aPre, aPost, oneW, allOne, retV, retVA, simprocAttr]
        exact post_nil (leD_refl _)
      · have hz0 : l.getD (l.length - 1) 0 = 0 := Decidable.byContradiction fun hh => hlast ⟨h0, hh⟩
        have e1 : ((l.length : Int) - 1).toNat = l.length - 1 := by omega
        simp -dsimp -implicitDefEqProofs (disch := first | omega | (simp only [List.length_append, List.length_cons, List.length_nil, List.length_take, List.length_drop]; omega)) only [hs, e1, hz0, ↓aPre, aPost, oneW, allOne, retV, retVA, simprocAttr]
        refine loop_nil 5 100 1 (fun s => ∃ (k : Nat), k ≤ l.length ∧ s.tm 7 = .d (.c (.int .i64 k)) ∧ s.tm 0 = .d (.lst 1 (li .u64 l)) ∧ s.tm 6 = .d (.c (.string (strOfNums (spK l k).2))) ∧ s.tm 5 = .sl 100 1 0 (spK l k).1.length ∧ s.hp 100 = some (.row 1 (sl (spK l k).1))) (fun s => l.length - (avN (s.tm 7)).toNat) ?_ (by decide) ?_ ?_
        · simp -dsimp -implicitDefEqProofs (disch := first | omega | (simp only [List.length_append, List.length_cons, List.length_nil, List.length_take, List.length_drop]; omega)) only [hs, ↓aPre, aPost, oneW, allOne, retV, retVA, simprocAttr]
        · refine ⟨0, Nat.zero_le _, ?_⟩
          have e0 : (spK l 0).1 = [] := rfl
          have e2 : (spK l 0).2 = [] := rfl
          have e3 : sl ([] : List (List Int)) = [] := rfl
          simp -dsimp -implicitDefEqProofs (disch := first | omega | (simp only [List.length_append, List.length_cons, List.length_nil, List.length_take, List.length_drop]; omega)) only [hs, e0, e2, e3, Int.natCast_zero, ↓aPre, aPost, oneW, allOne, retV, retVA, simprocAttr]
        rintro s2 ⟨k, hk, hs2⟩
        have hb := spK_b l k
        have el := sl_len (spK l k).1
        by_cases hlt : k < l.length
        · have hz := hU.get (by decide) k
          have hz2 := hj k hlt
          by_cases hzk : l.getD k 0 = 0
          · have es1 : (spK l (k + 1)).1 = (spK l k).1 ++ [(spK l k).2] := by rw [spK, stp, if_pos hzk]
            have es2 : (spK l (k + 1)).2 = [] := by rw [spK, stp, if_pos hzk]
            have es3 : sl ((spK l k).1 ++ [(spK l k).2]) = sl (spK l k).1 ++ [D.c (.string (strOfNums (spK l k).2))] := (sl_app ..).symm
            simp -dsimp -implicitDefEqProofs (disch := first | omega | (simp only [List.length_append, List.length_cons, List.length_nil, List.length_take, List.length_drop]; omega)) only [hs2, hzk, el, ↓aPre, aPost, oneW, allOne, retV, retVA, simprocAttr]
            refine round_of ⟨k + 1, by omega, ?_⟩ ?_
            · simp -dsimp -implicitDefEqProofs (disch := first | omega | (simp only [List.length_append, List.length_cons, List.length_nil, List.length_take, List.length_drop]; omega)) only [hs2, hzk, el, es1, es2, es3, ↓aPre, aPost, oneW, allOne, retV, retVA, simprocAttr]
            · simp -dsimp -implicitDefEqProofs (disch := first | omega | (simp only [List.length_append, List.length_cons, List.length_nil, List.length_take, List.length_drop]; omega)) only [hs2, ↓aPre, aPost, oneW, allOne, retV, retVA, simprocAttr]
              omega
          · have es1 : (spK l (k + 1)).1 = (spK l k).1 := by rw [spK, stp, if_neg hzk]
            have es2 : (spK l (k + 1)).2 = (spK l k).2 ++ [l.getD k 0] := by rw [spK, stp, if_neg hzk]
            simp -dsimp -implicitDefEqProofs (disch := first | omega | (simp only [List.length_append, List.length_cons, List.length_nil, List.length_take, List.length_drop]; omega)) only [hs2, ibeq_f hzk, hzk, ↓aPre, aPost, oneW, allOne, retV, retVA, simprocAttr]
            refine round_of ⟨k + 1, by omega, ?_⟩ ?_
            · simp -dsimp -implicitDefEqProofs (disch := first | omega | (simp only [List.length_append, List.length_cons, List.length_nil, List.length_take, List.length_drop]; omega)) only [hs2, ibeq_f hzk, hzk, es1, es2, ↓aPre, aPost, oneW, allOne, retV, retVA, simprocAttr]
            · simp -dsimp -implicitDefEqProofs (disch := first | omega | (simp only [List.length_append, List.length_cons, List.length_nil, List.length_take, List.length_drop]; omega)) only [hs2, ↓aPre, aPost, oneW, allOne, retV, retVA, simprocAttr]
              omega
        · obtain rfl : k = l.length := by omega
          simp -dsimp -implicitDefEqProofs (disch := first | omega | (simp only [List.length_append, List.length_cons, List.length_nil, List.length_take, List.length_drop]; omega)) only [hs2, el, ↓aPre, aPost, oneW, allOne, retV, retVA, simprocAttr]
          refine post_eq ?_
          first | rfl | rw [List.take_of_length_le (by rw [el]; exact Nat.le_refl _)]
end Go.Proofs.YthbdglibakjfbaaDoor
