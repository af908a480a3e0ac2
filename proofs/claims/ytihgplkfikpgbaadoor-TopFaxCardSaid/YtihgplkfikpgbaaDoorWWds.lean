/- The words of lengths, and of modes; the means. No condition. -/
import Derived.Test.YtihgplkfikpgbaaDoorLWd
set_option linter.unusedSimpArgs false
set_option linter.unusedVariables false
set_option maxRecDepth 8000
set_option maxHeartbeats 4000000
namespace Go.Proofs.YtihgplkfikpgbaaDoor
open Go.Eng Go.RowKit
def a31 : AFn := ⟨37, (.seq (.ops [⟨(.some 2), (.mov (.const (.slice .none 0 0))), .none⟩, ⟨(.some 3), (.mov (.const (.slice .none 0 0))), .none⟩]) (.seq (.ops [⟨(.some 4), (.mov (.const (.string (strOfNums whT)))), .none⟩, ⟨(.some 5), (.mov (.const (.string (strOfNums wmT)))), .none⟩]) (.seq (.seq (.ops [⟨(.some 9), (.mov (.tmp 0)), .none⟩]) (.cond (.tmp 9) (.ops [⟨(.some 4), (.mov (.const (.string (strOfNums blT)))), .none⟩, ⟨(.some 5), (.mov (.const (.string (strOfNums bmT)))), .none⟩]) .skip)) (.seq (.ops [⟨(.some 10), (.mov (.tmp 4)), .none⟩, ⟨(.some 11), (.bin .add (.tmp 10) (.const (.string (strOfNums [32])))), .none⟩, ⟨(.some 12), (.mov (.tmp 5)), .none⟩, ⟨(.some 13), (.bin .add (.tmp 11) (.tmp 12)), .none⟩, ⟨(.some 14), (.bin .add (.tmp 13) (.const (.string (strOfNums [32])))), .none⟩, ⟨(.some 15), (.bin .add (.tmp 14) (.const (.string (strOfNums moT)))), .none⟩, ⟨(.some 16), (.call 16 50 [(.tmp 15)]), .none⟩, ⟨(.some 6), (.mov (.tmp 16)), .none⟩]) (.seq (.ops [⟨(.some 7), (.mov (.const (.slice .none 0 0))), .none⟩]) (.seq (.seq (.ops [⟨(.some 17), (.mov (.tmp 6)), .none⟩, ⟨(.some 18), (.len (.tmp 17)), .none⟩, ⟨(.some 19), (.mov (.const (.int .i64 0))), .none⟩]) (.block 0 (.loop (.seq (.ops [⟨(.some 20), (.bin .lss (.tmp 19) (.tmp 18)), .none⟩]) (.seq (.cond (.tmp 20) .skip (.exit 0)) (.seq (.block 1 (.seq (.ops [⟨(.some 21), (.mov (.tmp 19)), .none⟩, ⟨(.some 8), (.mov (.tmp 21)), .none⟩]) (.seq (.ops [⟨(.some 22), (.mov (.tmp 8)), .none⟩, ⟨(.some 23), (.bin .lss (.tmp 22) (.const (.int .i64 64))), .none⟩]) (.cond (.tmp 23) (.ops [⟨(.some 24), (.mov (.tmp 7)), .none⟩, ⟨(.some 25), (.mov (.tmp 8)), .none⟩, ⟨(.some 26), (.lit 1 [(.tmp 25)]), .none⟩, ⟨(.some 27), (.app 27 1 8 (.tmp 24) (.tmp 26)), .none⟩, ⟨(.some 7), (.mov (.tmp 27)), .none⟩]) (.ops [⟨(.some 28), (.mov (.tmp 7)), .none⟩, ⟨(.some 29), (.mov (.tmp 8)), .none⟩, ⟨(.some 30), (.bin .sub (.tmp 29) (.const (.int .i64 63))), .none⟩, ⟨(.some 31), (.bin .mul (.const (.int .i64 64)) (.tmp 30)), .none⟩, ⟨(.some 32), (.lit 1 [(.tmp 31)]), .none⟩, ⟨(.some 33), (.app 33 1 8 (.tmp 28) (.tmp 32)), .none⟩, ⟨(.some 7), (.mov (.tmp 33)), .none⟩]))))) (.ops [⟨(.some 34), (.bin .add (.tmp 19) (.const (.int .i64 1))), .none⟩, ⟨(.some 19), (.mov (.tmp 34)), .none⟩]))))))) (.seq (.ops [⟨(.some 35), (.mov (.tmp 6)), .none⟩, ⟨(.some 36), (.mov (.tmp 7)), .none⟩, ⟨(.some 2), (.mov (.tmp 35)), .none⟩, ⟨(.some 3), (.mov (.tmp 36)), .none⟩]) .ret))))))), [(2, .none), (3, .none)]⟩
theorem c31 : cmpF Tryd.prog [] [] 31 = some a31 := by kernel_rfl
def a33 : AFn := ⟨4, (.seq (.ops [⟨(.some 0), (.mov (.const (.slice .none 0 0))), .none⟩, ⟨(.some 1), (.mov (.const (.slice .none 0 0))), .none⟩]) (.seq (.ops [⟨(.some 2), (.call 2 50 [(.const (.string (strOfNums mdT)))]), .none⟩, ⟨(.some 3), (.lit 1 [(.const (.int .i64 (-3))), (.const (.int .i64 (-2))), (.const (.int .i64 (-1))), (.const (.int .i64 0)), (.const (.int .i64 1)), (.const (.int .i64 2)), (.const (.int .i64 3)), (.const (.int .i64 4)), (.const (.int .i64 5)), (.const (.int .i64 6))]), .none⟩, ⟨(.some 0), (.mov (.tmp 2)), .none⟩, ⟨(.some 1), (.mov (.tmp 3)), .none⟩]) .ret)), [(0, .none), (1, .none)]⟩
theorem c33 : cmpF Tryd.prog [] [] 33 = some a33 := by kernel_rfl

theorem whT_l : whT.length = 514 := rfl
theorem wmT_l : wmT.length = 247 := rfl
theorem blT_l : blT.length = 717 := rfl
theorem bmT_l : bmT.length = 368 := rfl
theorem moT_l : moT.length = 165 := rfl
theorem ms_len : ∀ k, (msL k).length = k := fun k => by simp [msL]
theorem ms_snoc (k : Nat) : msL (k + 1) = msL k ++ [if k < 64 then (k : Int) else 64 * ((k : Int) - 63)] := by simp [msL, List.range_succ]
theorem words_giv (bl : Bool) (hcl : (clW bl).length = 104) : Giv Tryd.prog 31 [.c (.bool bl)] (retV [.lst 1 (wsD (clW bl)), .lst 1 (li .i64 (msL 104))]) := by
  have hf := fields_giv (clT bl) (by cases bl <;> decide +kernel) (asc_of (cl_asc bl)) (clW bl) (by omega) (cl_fld bl)
  have hl := wsD_len (clW bl)
  rw [hcl] at hl
  obtain ⟨W, hW⟩ : ∃ W, W = clW bl := ⟨_, rfl⟩
  rw [← hW] at hf hl ⊢
  cases bl
  all_goals
    rw [clT] at hf
    refine Giv.of mixed c31 (Nat.le_of_ble_eq_true rfl) ?_
    simp -dsimp -implicitDefEqProofs (disch := first | omega | (simp only [List.length_append, List.length_cons, List.length_nil, List.length_take, List.length_drop]; omega)) only [a31, whT_l, wmT_l, blT_l, bmT_l, moT_l, ↓aPre, aPost, oneW, allOne, retV, retVA, simprocAttr]
    refine call_giv (by first | exact hf | simpa only [if_true, Bool.false_eq_true, if_false] using hf) ?_
    simp -dsimp -implicitDefEqProofs (disch := first | omega | (simp only [List.length_append, List.length_cons, List.length_nil, List.length_take, List.length_drop]; omega)) only [hl, ↓aPre, aPost, oneW, allOne, retV, retVA, simprocAttr]
    refine loop_nil 7 100 1 (fun s => ∃ (k : Nat), k ≤ 104 ∧ s.tm 6 = .d (.lst 1 (wsD W)) ∧ s.tm 7 = .sl 100 1 0 k ∧ s.hp 100 = some (.row 1 (li .i64 (msL k))) ∧ s.tm 18 = .d (.c (.int .i64 104)) ∧ s.tm 19 = .d (.c (.int .i64 k))) (fun s => 104 - (avN (s.tm 19)).toNat) ?_ (by decide) ?_ ?_
    · simp -dsimp -implicitDefEqProofs (disch := first | omega | (simp only [List.length_append, List.length_cons, List.length_nil, List.length_take, List.length_drop]; omega)) only [↓aPre, aPost, oneW, allOne, retV, retVA, simprocAttr]
    · refine ⟨0, Nat.zero_le _, ?_⟩
      simp -dsimp -implicitDefEqProofs (disch := first | omega | (simp only [List.length_append, List.length_cons, List.length_nil, List.length_take, List.length_drop]; omega)) only [hl, Int.natCast_zero, ↓aPre, aPost, oneW, allOne, retV, retVA, simprocAttr]
      rfl
    rintro s ⟨k, hk, hs⟩
    have hml := ms_len k
    have hll := li_length (k := .i64) (l := msL k)
    rw [hml] at hll
    by_cases hlt : k < 104
    · have hms := ms_snoc k
      by_cases c : k < 64
      · rw [if_pos c] at hms
        simp -dsimp -implicitDefEqProofs (disch := first | omega | (simp only [List.length_append, List.length_cons, List.length_nil, List.length_take, List.length_drop]; omega)) only [hs, hll, ↓aPre, aPost, oneW, allOne, retV, retVA, simprocAttr]
        refine round_of ⟨k + 1, by omega, ?_⟩ ?_
        · simp -dsimp -implicitDefEqProofs (disch := first | omega | (simp only [List.length_append, List.length_cons, List.length_nil, List.length_take, List.length_drop]; omega)) only [hs, hll, hms, ↓aPre, aPost, oneW, allOne, retV, retVA, simprocAttr]
        · simp -dsimp -implicitDefEqProofs (disch := first | omega | (simp only [List.length_append, List.length_cons, List.length_nil, List.length_take, List.length_drop]; omega)) only [hs, ↓aPre, aPost, oneW, allOne, retV, retVA, simprocAttr]
          omega
      · rw [if_neg c] at hms
        simp -dsimp -implicitDefEqProofs (disch := first | omega | (simp only [List.length_append, List.length_cons, List.length_nil, List.length_take, List.length_drop]; omega)) only [hs, hll, ↓aPre, aPost, oneW, allOne, retV, retVA, simprocAttr]
        refine round_of ⟨k + 1, by omega, ?_⟩ ?_
        · simp -dsimp -implicitDefEqProofs (disch := first | omega | (simp only [List.length_append, List.length_cons, List.length_nil, List.length_take, List.length_drop]; omega)) only [hs, hll, hms, ↓aPre, aPost, oneW, allOne, retV, retVA, simprocAttr]
        · simp -dsimp -implicitDefEqProofs (disch := first | omega | (simp only [List.length_append, List.length_cons, List.length_nil, List.length_take, List.length_drop]; omega)) only [hs, ↓aPre, aPost, oneW, allOne, retV, retVA, simprocAttr]
          omega
    · obtain rfl : k = 104 := by omega
      simp -dsimp -implicitDefEqProofs (disch := first | omega | (simp only [List.length_append, List.length_cons, List.length_nil, List.length_take, List.length_drop]; omega)) only [hs, hll, ↓aPre, aPost, oneW, allOne, retV, retVA, simprocAttr]
      exact post_eq rfl
theorem modes_giv : Giv Tryd.prog 33 [] (retV [.lst 1 (wsD mdW), .lst 1 (li .i64 mdL)]) := by
  have hf := fields_giv mdT (by decide +kernel) (asc_of md_asc) mdW (by decide +kernel) md_fld
  refine Giv.of mixed c33 (Nat.le_of_ble_eq_true rfl) ?_
  simp -dsimp -implicitDefEqProofs (disch := first | omega | (simp only [List.length_append, List.length_cons, List.length_nil, List.length_take, List.length_drop]; omega)) only [a33, ↓aPre, aPost, oneW, allOne, retV, retVA, simprocAttr]
  refine call_giv hf ?_
  simp -dsimp -implicitDefEqProofs (disch := first | omega | (simp only [List.length_append, List.length_cons, List.length_nil, List.length_take, List.length_drop]; omega)) only [↓aPre, aPost, oneW, allOne, retV, retVA, simprocAttr]
  exact post_eq rfl
end Go.Proofs.YtihgplkfikpgbaaDoor
