/- The books of all words, made. No condition. -/
import Derived.Test.YtihgplkfikpgbaaDoorWWds
import Derived.Test.YtihgplkfikpgbaaDoorLWd
set_option linter.unusedSimpArgs false
set_option linter.unusedVariables false
set_option maxRecDepth 8000
set_option maxHeartbeats 4000000
namespace Go.Proofs.YtihgplkfikpgbaaDoor
open Go.Eng Go.RowKit
def a15 : AFn := ⟨44, (.seq (.ops [⟨(.some 0), (.mov (.const (.pointer .none))), .none⟩]) (.seq (.ops [⟨(.some 7), (.build [(.pointer .none), (.pointer .none), (.pointer .none)] []), .none⟩, ⟨(.some 8), (.box 8 3 (.tmp 7)), .none⟩, ⟨(.some 1), (.mov (.tmp 8)), .none⟩]) (.seq (.seq (.ops [⟨(.some 9), (.mov (.const (.int .i64 0))), .none⟩]) (.block 0 (.loop (.seq (.ops [⟨(.some 10), (.bin .lss (.tmp 9) (.const (.int .i64 2))), .none⟩]) (.seq (.cond (.tmp 10) .skip (.exit 0)) (.seq (.block 1 (.seq (.ops [⟨(.some 11), (.mov (.tmp 9)), .none⟩, ⟨(.some 2), (.mov (.tmp 11)), .none⟩]) (.seq (.ops [⟨(.some 13), (.mov (.tmp 2)), .none⟩, ⟨(.some 14), (.bin .eql (.tmp 13) (.const (.int .i64 1))), .none⟩, ⟨(.some 15), (.call 15 31 [(.tmp 14)]), .none⟩, ⟨(.some 12), (.mov (.tmp 15)), .none⟩, ⟨(.some 16), (.ext (.tmp 12) 0), .none⟩, ⟨(.some 17), (.ext (.tmp 12) 1), .none⟩, ⟨(.some 3), (.mov (.tmp 16)), .none⟩, ⟨(.some 4), (.mov (.tmp 17)), .none⟩]) (.draw [(⟨(.some 19), (.mov (.tmp 1)), .none⟩, (true, [])), (⟨(.some 20), (.mov (.tmp 2)), .none⟩, (true, [])), (⟨(.some 21), (.mov (.tmp 3)), .none⟩, (false, [])), (⟨(.some 22), (.mov (.tmp 4)), .none⟩, (false, [])), (⟨(.some 26), (.nilC (.tmp 19)), .none⟩, (true, [])), (⟨(.some 27), (.fadr 0 (.tmp 26)), .none⟩, (true, [])), (⟨(.some 23), (.callm 32 [(.tmp 21), (.tmp 22)]), .none⟩, (false, [])), (⟨(.some 18), (.mov (.tmp 23)), .none⟩, (false, [])), (⟨(.some 24), (.ext (.tmp 18) 0), .none⟩, (false, [])), (⟨(.some 25), (.ext (.tmp 18) 1), .none⟩, (true, [])), (⟨(.some 28), (.iadrA 2 1 (.tmp 27) (.tmp 20)), .none⟩, (false, [])), (⟨.none, (.st 1 (.tmp 28) (.tmp 24)), .none⟩, (false, []))])))) (.ops [⟨(.some 29), (.bin .add (.tmp 9) (.const (.int .i64 1))), .none⟩, ⟨(.some 9), (.mov (.tmp 29)), .none⟩]))))))) (.seq (.ops [⟨(.some 31), (.call 31 33 []), .none⟩, ⟨(.some 30), (.mov (.tmp 31)), .none⟩, ⟨(.some 32), (.ext (.tmp 30) 0), .none⟩, ⟨(.some 33), (.ext (.tmp 30) 1), .none⟩, ⟨(.some 5), (.mov (.tmp 32)), .none⟩, ⟨(.some 6), (.mov (.tmp 33)), .none⟩]) (.seq (.ops [⟨(.some 35), (.mov (.tmp 1)), .none⟩, ⟨(.some 36), (.mov (.tmp 5)), .none⟩, ⟨(.some 37), (.mov (.tmp 6)), .none⟩, ⟨(.some 38), (.callm 34 [(.tmp 36), (.tmp 37)]), .none⟩, ⟨(.some 34), (.mov (.tmp 38)), .none⟩, ⟨(.some 39), (.ext (.tmp 34) 0), .none⟩, ⟨(.some 40), (.ext (.tmp 34) 1), .none⟩, ⟨(.some 41), (.nilC (.tmp 35)), .none⟩, ⟨(.some 42), (.fadr 2 (.tmp 41)), .none⟩, ⟨.none, (.st 1 (.tmp 42) (.tmp 39)), .none⟩]) (.seq (.ops [⟨(.some 43), (.mov (.tmp 1)), .none⟩, ⟨(.some 0), (.mov (.tmp 43)), .none⟩]) .ret)))))), [(0, .none)]⟩
theorem c15 : cmpF Tryd.prog [3000032, 3000034] [8] 15 = some a15 := by kernel_rfl
def bkC (bl : Bool) : List D := [.lst 3 ((clN bl).map ndD), .lst 1 (li .i64 (msL 104)), .lst 1 (wsD (clW bl))]
def mdC : List D := [.lst 3 (mdN.map ndD), .lst 1 (li .i64 mdL), .lst 1 (wsD mdW)]
def coD : D := .ref [.ref (bkC false), .ref (bkC true), .ref mdC]
theorem all_get {ws : List (List Int)} (h : ws.all okW = true) (i : Nat) (hi : i < ws.length) : Bits (ws.getD i []) ∧ ws.getD i [] ≠ [] ∧ (ws.getD i []).length ≤ 13 := by
  rw [List.all_eq_true] at h
  have hm : ws.getD i [] ∈ ws := by
    simp only [List.getD, List.getElem?_eq_getElem hi, Option.getD_some]
    exact List.getElem_mem _
  have := h _ hm
  unfold okW at this
  simp only [Bool.and_eq_true, List.all_eq_true, decide_eq_true_eq, Bool.not_eq_true', List.isEmpty_eq_false_iff] at this
  exact ⟨this.1.1, this.1.2, this.2⟩
theorem newc_giv : Giv Tryd.prog 15 [] (retV [coD]) := by
  have hn : ∀ bl, GivM Tryd.prog 32 [.d (.lst 1 (wsD (clW bl))), .d (.lst 1 (li .i64 (msL 104)))] [] (.tup [.d (.ref (bkC bl)), .d (.c (.int .i64 0))]) [] := fun bl => new_m (clW bl) (msL 104) (clN bl) (cl_book bl) (by rw [cl_len, ms_len]) (by rw [cl_len]; decide) fun i hi => by
    obtain ⟨h1, h2, h3⟩ := all_get (cl_ok bl) i hi
    exact ⟨h1, h2, by omega⟩
  have hm : GivM Tryd.prog 34 [.d (.lst 1 (wsD mdW)), .d (.lst 1 (li .i64 mdL))] [] (.tup [.d (.ref mdC), .d (.c (.int .i64 0))]) [] := new2_m mdW mdL mdN md_book (by decide +kernel) (by decide +kernel) fun i hi => by
    obtain ⟨h1, h2, h3⟩ := all_get md_ok i hi
    exact ⟨h1, h2, by omega⟩
  have hw : ∀ bl, Giv Tryd.prog 31 [.c (.bool bl)] (retV [.lst 1 (wsD (clW bl)), .lst 1 (li .i64 (msL 104))]) := fun bl => words_giv bl (cl_len bl)
  obtain ⟨B, hB⟩ : ∃ B : Bool → List D, B = bkC := ⟨_, rfl⟩
  obtain ⟨Md, hMd⟩ : ∃ Md : List D, Md = mdC := ⟨_, rfl⟩
  unfold coD
  rw [← hB] at hn ⊢
  rw [← hMd] at hm ⊢
  refine Giv.of mixed c15 (Nat.le_of_ble_eq_true rfl) ?_
  simp -dsimp -implicitDefEqProofs (disch := first | omega | (simp only [List.length_append, List.length_cons, List.length_nil, List.length_take, List.length_drop]; omega)) only [a15, ↓aPre, aPost, oneW, allOne, retV, retVA, simprocAttr]
  refine loop_of (fun s => ∃ (k : Nat), k ≤ 2 ∧ s.tm 1 = .ptr 8 0 ∧ s.tm 9 = .d (.c (.int .i64 k)) ∧ s.hp 8 = some (.box [if 0 < k then .d (.ref (B false)) else .d (.c (.pointer none)), if 1 < k then .d (.ref (B true)) else .d (.c (.pointer none)), .d (.c (.pointer none))])) (fun s => 2 - (avN (s.tm 9)).toNat) ?_ ?_
  · refine ⟨0, by decide, ?_⟩
    simp -dsimp -implicitDefEqProofs (disch := first | omega | (simp only [List.length_append, List.length_cons, List.length_nil, List.length_take, List.length_drop]; omega)) only [Int.natCast_zero, ↓aPre, aPost, oneW, allOne, retV, retVA, simprocAttr]
  rintro s ⟨k, hk, hs⟩
  obtain rfl | rfl | rfl : k = 0 ∨ k = 1 ∨ k = 2 := by omega
  · simp -dsimp -implicitDefEqProofs (disch := first | omega | (simp only [List.length_append, List.length_cons, List.length_nil, List.length_take, List.length_drop]; omega)) only [hs, ↓aPre, aPost, oneW, allOne, retV, retVA, simprocAttr]
    refine call_giv (hw false) ?_
    simp -dsimp -implicitDefEqProofs (disch := first | omega | (simp only [List.length_append, List.length_cons, List.length_nil, List.length_take, List.length_drop]; omega)) only [hs, ↓aPre, aPost, oneW, allOne, retV, retVA, simprocAttr]
    refine call_mut (hn false) [] rfl rfl ?_ ?_
    · simp -dsimp -implicitDefEqProofs (disch := first | omega | (simp only [List.length_append, List.length_cons, List.length_nil, List.length_take, List.length_drop]; omega)) only [hs, ↓aPre, aPost, oneW, allOne, retV, retVA, simprocAttr]
    simp -dsimp -implicitDefEqProofs (disch := first | omega | (simp only [List.length_append, List.length_cons, List.length_nil, List.length_take, List.length_drop]; omega)) only [hs, ↓aPre, aPost, oneW, allOne, retV, retVA, simprocAttr]
    refine round_of ⟨1, by decide, ?_⟩ ?_
    · simp -dsimp -implicitDefEqProofs (disch := first | omega | (simp only [List.length_append, List.length_cons, List.length_nil, List.length_take, List.length_drop]; omega)) only [hs, Int.natCast_one, ↓aPre, aPost, oneW, allOne, retV, retVA, simprocAttr]
    · simp -dsimp -implicitDefEqProofs (disch := first | omega | (simp only [List.length_append, List.length_cons, List.length_nil, List.length_take, List.length_drop]; omega)) only [hs, ↓aPre, aPost, oneW, allOne, retV, retVA, simprocAttr]
  · simp -dsimp -implicitDefEqProofs (disch := first | omega | (simp only [List.length_append, List.length_cons, List.length_nil, List.length_take, List.length_drop]; omega)) only [hs, ↓aPre, aPost, oneW, allOne, retV, retVA, simprocAttr]
    refine call_giv (hw true) ?_
    simp -dsimp -implicitDefEqProofs (disch := first | omega | (simp only [List.length_append, List.length_cons, List.length_nil, List.length_take, List.length_drop]; omega)) only [hs, ↓aPre, aPost, oneW, allOne, retV, retVA, simprocAttr]
    refine call_mut (hn true) [] rfl rfl ?_ ?_
    · simp -dsimp -implicitDefEqProofs (disch := first | omega | (simp only [List.length_append, List.length_cons, List.length_nil, List.length_take, List.length_drop]; omega)) only [hs, ↓aPre, aPost, oneW, allOne, retV, retVA, simprocAttr]
    simp -dsimp -implicitDefEqProofs (disch := first | omega | (simp only [List.length_append, List.length_cons, List.length_nil, List.length_take, List.length_drop]; omega)) only [hs, ↓aPre, aPost, oneW, allOne, retV, retVA, simprocAttr]
    refine round_of ⟨2, by decide, ?_⟩ ?_
    · simp -dsimp -implicitDefEqProofs (disch := first | omega | (simp only [List.length_append, List.length_cons, List.length_nil, List.length_take, List.length_drop]; omega)) only [hs, ↓aPre, aPost, oneW, allOne, retV, retVA, simprocAttr]
    · simp -dsimp -implicitDefEqProofs (disch := first | omega | (simp only [List.length_append, List.length_cons, List.length_nil, List.length_take, List.length_drop]; omega)) only [hs, ↓aPre, aPost, oneW, allOne, retV, retVA, simprocAttr]
  · simp -dsimp -implicitDefEqProofs (disch := first | omega | (simp only [List.length_append, List.length_cons, List.length_nil, List.length_take, List.length_drop]; omega)) only [hs, ↓aPre, aPost, oneW, allOne, retV, retVA, simprocAttr]
    refine call_giv modes_giv ?_
    simp -dsimp -implicitDefEqProofs (disch := first | omega | (simp only [List.length_append, List.length_cons, List.length_nil, List.length_take, List.length_drop]; omega)) only [hs, ↓aPre, aPost, oneW, allOne, retV, retVA, simprocAttr]
    refine call_mut hm [] rfl rfl ?_ ?_
    · simp -dsimp -implicitDefEqProofs (disch := first | omega | (simp only [List.length_append, List.length_cons, List.length_nil, List.length_take, List.length_drop]; omega)) only [hs, ↓aPre, aPost, oneW, allOne, retV, retVA, simprocAttr]
    simp -dsimp -implicitDefEqProofs (disch := first | omega | (simp only [List.length_append, List.length_cons, List.length_nil, List.length_take, List.length_drop]; omega)) only [hs, ↓aPre, aPost, oneW, allOne, retV, retVA, simprocAttr]
    exact post_eq rfl
end Go.Proofs.YtihgplkfikpgbaaDoor
