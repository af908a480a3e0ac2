/- The statement RegistryShows, walked: any field's text, and whether it is as its tag's rule says. No condition but what a field may be. -/
import Derived.Test.YthbdglibakjfbaaDoorWShow
import Derived.Test.YthbdglibakjfbaaDoorWShow2
import Derived.Test.YthbdglibakjfbaaDoorWVal
set_option linter.unusedSimpArgs false
set_option linter.unusedVariables false
set_option maxRecDepth 8000
set_option maxHeartbeats 4000000
set_option linter.unusedSectionVars false
namespace Go.Proofs.YthbdglibakjfbaaDoor
open Go.Eng Go.RowKit
variable [Inhabited Lo]
def a4 : AFn := ⟨24, (.seq (.ops [⟨(.some 1), (.box 1 3 (.tmp 0)), .none⟩, ⟨(.some 2), (.mov (.const (.bool false))), .none⟩]) (.seq (.seq (.ops [⟨(.some 3), (.call 3 7 []), .none⟩, ⟨(.some 4), (.un .not (.tmp 3)), .none⟩, ⟨(.some 5), (.mov (.tmp 4)), .none⟩, ⟨(.some 6), (.fadr 2 (.tmp 1)), (.some (5, false))⟩, ⟨(.some 7), (.ld (.tmp 6)), (.some (5, false))⟩, ⟨(.some 8), (.len (.tmp 7)), (.some (5, false))⟩, ⟨(.some 9), (.bin .gtr (.tmp 8) (.const (.int .i64 300))), (.some (5, false))⟩, ⟨(.some 10), (.pick (.tmp 5) (.const (.bool true)) (.tmp 9)), .none⟩]) (.cond (.tmp 10) (.seq (.ops [⟨(.some 11), (.call 11 7 []), .none⟩, ⟨(.some 2), (.mov (.tmp 11)), .none⟩]) .ret) .skip)) (.seq (.draw [(⟨(.some 12), (.ldn 3 (.tmp 1)), .none⟩, (false, [])), (⟨(.some 14), (.ldn 3 (.tmp 1)), .none⟩, (false, [])), (⟨(.some 13), (.call 13 12 [(.tmp 12)]), .none⟩, (false, [1])), (⟨(.some 15), (.call 15 13 [(.tmp 14)]), .none⟩, (false, [1])), (⟨(.some 16), (.bin .eql (.tmp 13) (.tmp 15)), .none⟩, (false, [])), (⟨(.some 17), (.mov (.tmp 16)), .none⟩, (false, [])), (⟨(.some 18), (.ldn 3 (.tmp 1)), (.some (17, true))⟩, (false, [])), (⟨(.some 20), (.ldn 3 (.tmp 1)), (.some (17, true))⟩, (false, [])), (⟨(.some 19), (.call 19 14 [(.tmp 18)]), (.some (17, true))⟩, (false, [1])), (⟨(.some 21), (.call 21 15 [(.tmp 20)]), (.some (17, true))⟩, (false, [1])), (⟨(.some 22), (.bin .eql (.tmp 19) (.tmp 21)), (.some (17, true))⟩, (false, [])), (⟨(.some 23), (.pick (.tmp 17) (.tmp 22) (.const (.bool false))), .none⟩, (false, [])), (⟨(.some 2), (.mov (.tmp 23)), .none⟩, (false, []))]) .ret))), [(2, .none)]⟩
theorem c4 : cmpF Tryd.prog [] [] 4 = some a4 := by kernel_rfl
theorem shows_two (t : Int) (ht : 0 ≤ t ∧ t ≤ 65535) (kd : Int) (l : List Int) (hl : l.length ≤ 300) (hU : In 18446744073709551616 l) :
    ∃ T : List Int, Giv Tryd.prog 12 [.agg [.c (.int .u16 t), .c (.int .i64 kd), .lst 1 (li .u64 l)]] (retV [.c (.string (strOfNums T))]) ∧ Giv Tryd.prog 13 [.agg [.c (.int .u16 t), .c (.int .i64 kd), .lst 1 (li .u64 l)]] (retV [.c (.string (strOfNums T))]) := by
  by_cases h : kd = 2 ∧ lowP l ∧ (spK l l.length).2 = []
  · obtain ⟨rfl, h1, h2⟩ := h
    exact ⟨_, show_txt t ht l hl hU h1 h2, rshow_txt t ht l hl hU h1 h2⟩
  · have key : ∀ v ∈ l, (valT kd v).length ≤ 100 ∧ Giv Tryd.prog 26 [.c (.int .u64 v), .c (.int .i64 kd)] (retV [.c (.string (strOfNums (valT kd v)))]) ∧ Giv Tryd.prog 28 [.c (.int .u64 v), .c (.int .i64 kd)] (retV [.c (.string (strOfNums (valT kd v)))]) := fun v hv => by
      have hb := hU v hv
      obtain ⟨n, rfl⟩ := Int.eq_ofNat_of_zero_le hb.1
      exact ⟨valT_le kd n hb, value_giv hex_giv kd n (by omega), rvalue_giv hex_giv kd n (by omega)⟩
    exact ⟨_, show_val (valT kd) t ht kd l hl hU h fun v hv => ⟨(key v hv).1, (key v hv).2.1⟩, rshow_val (valT kd) t ht kd l hl hU h fun v hv => ⟨(key v hv).1, (key v hv).2.2⟩⟩
theorem shows_all (t : Int) (ht : 0 ≤ t ∧ t ≤ 65535) (kd : Int) (l : List Int) (hL : l.length ≤ 140737488351232) (hU : In 18446744073709551616 l) :
    Giv Tryd.prog 4 [.agg [.c (.int .u16 t), .c (.int .i64 kd), .lst 1 (li .u64 l)]] (.d (.c (.bool true))) := by
  have hll := li_length (k := .u64) (l := l)
  refine Giv.of (out := [.c (.bool true)]) mixed c4 (Nat.le_of_ble_eq_true rfl) ?_
  by_cases hl : l.length ≤ 300
  · obtain ⟨T, g1, g2⟩ := shows_two t ht kd l hl hU
    have g3 := chk_giv t kd l hl hU
    have g4 := rchk_giv t ht kd l hl hU
    simp -dsimp -implicitDefEqProofs (disch := first | omega | (simp only [List.length_append, List.length_cons, List.length_nil, List.length_take, List.length_drop]; omega)) only [a4, ↓aPre, aPost, oneW, allOne, retV, retVA, simprocAttr]
    refine call_giv lives_giv ?_
    simp -dsimp -implicitDefEqProofs (disch := first | omega | (simp only [List.length_append, List.length_cons, List.length_nil, List.length_take, List.length_drop]; omega)) only [hll, ↓aPre, aPost, oneW, allOne, retV, retVA, simprocAttr]
    refine call_giv g1 ?_
    simp -dsimp -implicitDefEqProofs (disch := first | omega | (simp only [List.length_append, List.length_cons, List.length_nil, List.length_take, List.length_drop]; omega)) only [↓aPre, aPost, oneW, allOne, retV, retVA, simprocAttr]
    refine call_giv g2 ?_
    simp -dsimp -implicitDefEqProofs (disch := first | omega | (simp only [List.length_append, List.length_cons, List.length_nil, List.length_take, List.length_drop]; omega)) only [↓aPre, aPost, oneW, allOne, retV, retVA, simprocAttr]
    refine call_giv g3 ?_
    simp -dsimp -implicitDefEqProofs (disch := first | omega | (simp only [List.length_append, List.length_cons, List.length_nil, List.length_take, List.length_drop]; omega)) only [↓aPre, aPost, oneW, allOne, retV, retVA, simprocAttr]
    refine call_giv g4 ?_
    simp -dsimp -implicitDefEqProofs (disch := first | omega | (simp only [List.length_append, List.length_cons, List.length_nil, List.length_take, List.length_drop]; omega)) only [ibeq_t (rfl : chkT t kd l = chkT t kd l), ↓aPre, aPost, oneW, allOne, retV, retVA, simprocAttr]
    exact post_eq rfl
  · simp -dsimp -implicitDefEqProofs (disch := first | omega | (simp only [List.length_append, List.length_cons, List.length_nil, List.length_take, List.length_drop]; omega)) only [a4, ↓aPre, aPost, oneW, allOne, retV, retVA, simprocAttr]
    refine call_giv lives_giv ?_
    simp -dsimp -implicitDefEqProofs (disch := first | omega | (simp only [List.length_append, List.length_cons, List.length_nil, List.length_take, List.length_drop]; omega)) only [hll, ↓aPre, aPost, oneW, allOne, retV, retVA, simprocAttr]
    refine call_giv lives_giv ?_
    simp -dsimp -implicitDefEqProofs (disch := first | omega | (simp only [List.length_append, List.length_cons, List.length_nil, List.length_take, List.length_drop]; omega)) only [↓aPre, aPost, oneW, allOne, retV, retVA, simprocAttr]
    exact post_eq rfl
theorem registryShows_giv (y0 : (Int) × (Int) × (List Int)) (h0 : ((0 ≤ y0.1 ∧ y0.1 ≤ 65535) ∧ (-9223372036854775808 ≤ y0.2.1 ∧ y0.2.1 ≤ 9223372036854775807) ∧ (y0.2.2.length * 8 ≤ 140737488351232 ∧ ∀ z ∈ y0.2.2, 0 ≤ z ∧ z ≤ 18446744073709551615))) : Giv Tryd.prog 4 [.agg [.c (.int .u16 y0.1), .c (.int .i64 y0.2.1), .lst 1 (li .u64 y0.2.2)]] (.d (.c (.bool true))) :=
  shows_all y0.1 h0.1 y0.2.1 y0.2.2 (by have := h0.2.2.1; omega) fun z hz => by have := h0.2.2.2 z hz; omega
end Go.Proofs.YthbdglibakjfbaaDoor
