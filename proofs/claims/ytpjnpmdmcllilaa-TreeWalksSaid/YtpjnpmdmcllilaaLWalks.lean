/- TreeWalks: the law's function gives true of all data. No condition but that whole numbers are of their kinds. -/
import Derived.Test.YtpjnpmdmcllilaaLLive
set_option linter.unusedSimpArgs false
set_option linter.unusedVariables false
set_option maxRecDepth 8000
set_option maxHeartbeats 8000000
namespace Go.Proofs.Ytpjnpmdmcllilaa
open Go.Eng Go.RowKit
def a3 : AFn := ⟨210, (.seq (.ops [⟨(.some 4), (.box 4 3 (.tmp 1)), .none⟩, ⟨(.some 5), (.box 5 2 (.tmp 2)), .none⟩, ⟨(.some 6), (.mov (.const (.bool false))), .none⟩]) (.seq (.seq (.ops [⟨(.some 21), (.call 21 5 []), .none⟩, ⟨(.some 22), (.un .not (.tmp 21)), .none⟩, ⟨(.some 23), (.mov (.tmp 22)), .none⟩, ⟨(.some 24), (.mov (.tmp 0)), (.some (23, false))⟩, ⟨(.some 25), (.len (.tmp 24)), (.some (23, false))⟩, ⟨(.some 26), (.bin .gtr (.tmp 25) (.const (.int .i64 2000))), (.some (23, false))⟩, ⟨(.some 27), (.pick (.tmp 23) (.const (.bool true)) (.tmp 26)), .none⟩, ⟨(.some 28), (.mov (.tmp 27)), .none⟩, ⟨(.some 29), (.iadrA 2 1 (.tmp 5) (.const (.int .i64 0))), (.some (28, false))⟩, ⟨(.some 30), (.ld (.tmp 29)), (.some (28, false))⟩, ⟨(.some 31), (.bin .gtr (.tmp 30) (.const (.int .i64 200))), (.some (28, false))⟩, ⟨(.some 32), (.pick (.tmp 28) (.const (.bool true)) (.tmp 31)), .none⟩]) (.cond (.tmp 32) (.seq (.ops [⟨(.some 33), (.call 33 5 []), .none⟩, ⟨(.some 6), (.mov (.tmp 33)), .none⟩]) .ret) .skip)) (.seq (.ops [⟨(.some 34), (.lit0 34 1), .none⟩, ⟨(.some 35), (.mov (.tmp 0)), .none⟩, ⟨(.some 36), (.app 36 1 1 (.tmp 34) (.tmp 35)), .none⟩, ⟨(.some 7), (.mov (.tmp 36)), .none⟩]) (.seq (.ops [⟨(.some 38), (.mov (.tmp 7)), .none⟩, ⟨(.some 39), (.ldn 3 (.tmp 4)), .none⟩, ⟨(.some 40), (.iadrA 2 1 (.tmp 5) (.const (.int .i64 0))), .none⟩, ⟨(.some 41), (.ld (.tmp 40)), .none⟩, ⟨(.some 42), (.iadrA 2 1 (.tmp 5) (.const (.int .i64 1))), .none⟩, ⟨(.some 43), (.ld (.tmp 42)), .none⟩, ⟨(.some 44), (.call 44 6 [(.tmp 38), (.tmp 39), (.tmp 41), (.tmp 43)]), .none⟩, ⟨(.some 37), (.mov (.tmp 44)), .none⟩, ⟨(.some 45), (.ext (.tmp 37) 0), .none⟩, ⟨(.some 46), (.ext (.tmp 37) 1), .none⟩, ⟨(.some 8), (.mov (.tmp 45)), .none⟩, ⟨(.some 9), (.mov (.tmp 46)), .none⟩]) (.seq (.ops [⟨(.some 48), (.mov (.tmp 0)), .none⟩, ⟨(.some 49), (.cvS (.tmp 48)), .none⟩, ⟨(.some 50), (.ldn 3 (.tmp 4)), .none⟩, ⟨(.some 51), (.iadrA 2 1 (.tmp 5) (.const (.int .i64 0))), .none⟩, ⟨(.some 52), (.ld (.tmp 51)), .none⟩, ⟨(.some 53), (.iadrA 2 1 (.tmp 5) (.const (.int .i64 1))), .none⟩, ⟨(.some 54), (.ld (.tmp 53)), .none⟩, ⟨(.some 55), (.call 55 7 [(.tmp 49), (.tmp 50), (.tmp 52), (.tmp 54)]), .none⟩, ⟨(.some 47), (.mov (.tmp 55)), .none⟩, ⟨(.some 56), (.ext (.tmp 47) 0), .none⟩, ⟨(.some 57), (.ext (.tmp 47) 1), .none⟩, ⟨(.some 10), (.mov (.tmp 56)), .none⟩, ⟨(.some 11), (.mov (.tmp 57)), .none⟩]) (.seq (.seq (.ops [⟨(.some 58), (.mov (.tmp 9)), .none⟩, ⟨(.some 59), (.mov (.tmp 11)), .none⟩, ⟨(.some 60), (.bin .neq (.tmp 58) (.tmp 59)), .none⟩, ⟨(.some 61), (.mov (.tmp 60)), .none⟩, ⟨(.some 62), (.mov (.tmp 8)), (.some (61, false))⟩, ⟨(.some 63), (.len (.tmp 62)), (.some (61, false))⟩, ⟨(.some 64), (.mov (.tmp 10)), (.some (61, false))⟩, ⟨(.some 65), (.len (.tmp 64)), (.some (61, false))⟩, ⟨(.some 66), (.bin .neq (.tmp 63) (.tmp 65)), (.some (61, false))⟩, ⟨(.some 67), (.pick (.tmp 61) (.const (.bool true)) (.tmp 66)), .none⟩, ⟨(.some 68), (.mov (.tmp 67)), .none⟩, ⟨(.some 69), (.mov (.tmp 7)), (.some (68, false))⟩, ⟨(.some 70), (.cvS (.tmp 69)), (.some (68, false))⟩, ⟨(.some 71), (.mov (.tmp 0)), (.some (68, false))⟩, ⟨(.some 72), (.cvS (.tmp 71)), (.some (68, false))⟩, ⟨(.some 73), (.bin .neq (.tmp 70) (.tmp 72)), (.some (68, false))⟩, ⟨(.some 74), (.pick (.tmp 68) (.const (.bool true)) (.tmp 73)), .none⟩]) (.cond (.tmp 74) (.seq (.ops [⟨(.some 6), (.mov (.const (.bool false))), .none⟩]) .ret) .skip)) (.seq (.seq (.ops [⟨(.some 75), (.mov (.tmp 8)), .none⟩, ⟨(.some 76), (.len (.tmp 75)), .none⟩, ⟨(.some 77), (.mov (.const (.int .i64 0))), .none⟩]) (.block 0 (.loop (.seq (.ops [⟨(.some 78), (.bin .lss (.tmp 77) (.tmp 76)), .none⟩]) (.seq (.cond (.tmp 78) .skip (.exit 0)) (.seq (.block 1 (.seq (.ops [⟨(.some 79), (.mov (.tmp 77)), .none⟩, ⟨(.some 12), (.mov (.tmp 79)), .none⟩]) (.seq (.seq (.drawT (.one ⟨(.some 80), (.mov (.tmp 8)), .none⟩ false [] (.one ⟨(.some 81), (.mov (.tmp 12)), .none⟩ false [] (.one ⟨(.some 82), (.iadr 5 (.tmp 80) (.tmp 81)), .none⟩ false [] (.one ⟨(.some 83), (.fadr 0 (.tmp 82)), .none⟩ false [] (.one ⟨(.some 84), (.ld (.tmp 83)), .none⟩ false [] (.one ⟨(.some 85), (.mov (.tmp 10)), .none⟩ false [] (.one ⟨(.some 86), (.mov (.tmp 12)), .none⟩ false [] (.one ⟨(.some 87), (.iadr 5 (.tmp 85) (.tmp 86)), .none⟩ false [] (.one ⟨(.some 88), (.fadr 0 (.tmp 87)), .none⟩ false [] (.one ⟨(.some 89), (.ld (.tmp 88)), .none⟩ false [] (.one ⟨(.some 90), (.bin .neq (.tmp 84) (.tmp 89)), .none⟩ false [] (.one ⟨(.some 91), (.mov (.tmp 90)), .none⟩ false [] (.one ⟨(.some 92), (.mov (.tmp 8)), (.some (91, false))⟩ false [] (.one ⟨(.some 93), (.mov (.tmp 12)), (.some (91, false))⟩ false [] (.one ⟨(.some 94), (.iadr 5 (.tmp 92) (.tmp 93)), (.some (91, false))⟩ false [] (.one ⟨(.some 95), (.fadr 1 (.tmp 94)), (.some (91, false))⟩ false [] (.one ⟨(.some 96), (.ld (.tmp 95)), (.some (91, false))⟩ false [] (.one ⟨(.some 97), (.mov (.tmp 10)), (.some (91, false))⟩ false [] (.one ⟨(.some 98), (.mov (.tmp 12)), (.some (91, false))⟩ false [] (.one ⟨(.some 99), (.iadr 5 (.tmp 97) (.tmp 98)), (.some (91, false))⟩ false [] (.one ⟨(.some 100), (.fadr 1 (.tmp 99)), (.some (91, false))⟩ false [] (.one ⟨(.some 101), (.ld (.tmp 100)), (.some (91, false))⟩ false [] (.one ⟨(.some 102), (.bin .neq (.tmp 96) (.tmp 101)), (.some (91, false))⟩ false [] (.one ⟨(.some 103), (.pick (.tmp 91) (.const (.bool true)) (.tmp 102)), .none⟩ false [] (.one ⟨(.some 104), (.mov (.tmp 103)), .none⟩ false [] (.one ⟨(.some 105), (.mov (.tmp 8)), (.some (104, false))⟩ false [] (.one ⟨(.some 106), (.mov (.tmp 12)), (.some (104, false))⟩ false [] (.one ⟨(.some 107), (.iadr 5 (.tmp 105) (.tmp 106)), (.some (104, false))⟩ false [] (.one ⟨(.some 108), (.fadr 2 (.tmp 107)), (.some (104, false))⟩ false [] (.one ⟨(.some 109), (.ldn 3 (.tmp 108)), (.some (104, false))⟩ false [] (.one ⟨(.some 111), (.mov (.tmp 10)), (.some (104, false))⟩ false [] (.one ⟨(.some 112), (.mov (.tmp 12)), (.some (104, false))⟩ false [] (.one ⟨(.some 113), (.iadr 5 (.tmp 111) (.tmp 112)), (.some (104, false))⟩ false [] (.one ⟨(.some 114), (.fadr 2 (.tmp 113)), (.some (104, false))⟩ false [] (.one ⟨(.some 115), (.ldn 3 (.tmp 114)), (.some (104, false))⟩ false [] (.fork ⟨(.some 110), (.lit 3 [(.tmp 109)]), (.some (104, false))⟩ ⟨(.some 116), (.lit 3 [(.tmp 115)]), (.some (104, false))⟩ [4, 5] [4, 5] (.one ⟨(.some 116), (.lit 3 [(.tmp 115)]), (.some (104, false))⟩ false [4, 5] (.one ⟨(.some 117), (.call 117 8 [(.tmp 110), (.tmp 116)]), (.some (104, false))⟩ false [4, 5] (.one ⟨(.some 118), (.un .not (.tmp 117)), (.some (104, false))⟩ false [] (.one ⟨(.some 119), (.pick (.tmp 104) (.const (.bool true)) (.tmp 118)), .none⟩ false [] .done)))) (.one ⟨(.some 110), (.lit 3 [(.tmp 109)]), (.some (104, false))⟩ false [4, 5] (.one ⟨(.some 117), (.call 117 8 [(.tmp 110), (.tmp 116)]), (.some (104, false))⟩ false [4, 5] (.one ⟨(.some 118), (.un .not (.tmp 117)), (.some (104, false))⟩ false [] (.one ⟨(.some 119), (.pick (.tmp 104) (.const (.bool true)) (.tmp 118)), .none⟩ false [] .done))))))))))))))))))))))))))))))))))))))))) (.cond (.tmp 119) (.seq (.ops [⟨(.some 6), (.mov (.const (.bool false))), .none⟩]) .ret) .skip)) (.seq (.ops [⟨(.some 121), (.mov (.tmp 8)), .none⟩, ⟨(.some 122), (.mov (.tmp 12)), .none⟩, ⟨(.some 123), (.call 123 9 [(.tmp 121), (.tmp 122)]), .none⟩, ⟨(.some 120), (.mov (.tmp 123)), .none⟩, ⟨(.some 124), (.ext (.tmp 120) 0), .none⟩, ⟨(.some 125), (.ext (.tmp 120) 1), .none⟩, ⟨(.some 13), (.mov (.tmp 124)), .none⟩, ⟨(.some 14), (.mov (.tmp 125)), .none⟩]) (.seq (.seq (.ops [⟨(.some 126), (.mov (.tmp 14)), .none⟩, ⟨(.some 127), (.bin .neq (.tmp 126) (.const (.int .i64 0))), .none⟩, ⟨(.some 128), (.mov (.tmp 127)), .none⟩, ⟨(.some 129), (.mov (.tmp 13)), (.some (128, false))⟩, ⟨(.some 130), (.len (.tmp 129)), (.some (128, false))⟩, ⟨(.some 131), (.mov (.tmp 8)), (.some (128, false))⟩, ⟨(.some 132), (.mov (.tmp 12)), (.some (128, false))⟩, ⟨(.some 133), (.iadr 5 (.tmp 131) (.tmp 132)), (.some (128, false))⟩, ⟨(.some 134), (.fadr 0 (.tmp 133)), (.some (128, false))⟩, ⟨(.some 135), (.ld (.tmp 134)), (.some (128, false))⟩, ⟨(.some 136), (.bin .add (.tmp 135) (.const (.int .i64 1))), (.some (128, false))⟩, ⟨(.some 137), (.bin .neq (.tmp 130) (.tmp 136)), (.some (128, false))⟩, ⟨(.some 138), (.pick (.tmp 128) (.const (.bool true)) (.tmp 137)), .none⟩, ⟨(.some 139), (.mov (.tmp 138)), .none⟩, ⟨(.some 140), (.mov (.tmp 13)), (.some (139, false))⟩, ⟨(.some 141), (.mov (.tmp 13)), (.some (139, false))⟩, ⟨(.some 142), (.len (.tmp 141)), (.some (139, false))⟩, ⟨(.some 143), (.bin .sub (.tmp 142) (.const (.int .i64 1))), (.some (139, false))⟩, ⟨(.some 144), (.iadr 1 (.tmp 140) (.tmp 143)), (.some (139, false))⟩, ⟨(.some 145), (.ld (.tmp 144)), (.some (139, false))⟩, ⟨(.some 146), (.mov (.tmp 12)), (.some (139, false))⟩, ⟨(.some 147), (.bin .neq (.tmp 145) (.tmp 146)), (.some (139, false))⟩, ⟨(.some 148), (.pick (.tmp 139) (.const (.bool true)) (.tmp 147)), .none⟩]) (.cond (.tmp 148) (.seq (.ops [⟨(.some 6), (.mov (.const (.bool false))), .none⟩]) .ret) .skip)) (.seq (.ops [⟨(.some 149), (.mov (.tmp 13)), .none⟩, ⟨(.some 150), (.len (.tmp 149)), .none⟩, ⟨(.some 151), (.mov (.const (.int .i64 0))), .none⟩]) (.block 2 (.loop (.seq (.ops [⟨(.some 152), (.bin .lss (.tmp 151) (.tmp 150)), .none⟩]) (.seq (.cond (.tmp 152) .skip (.exit 2)) (.seq (.block 3 (.seq (.ops [⟨(.some 153), (.mov (.tmp 151)), .none⟩, ⟨(.some 154), (.iadr 1 (.tmp 149) (.tmp 151)), .none⟩, ⟨(.some 155), (.ld (.tmp 154)), .none⟩, ⟨(.some 15), (.mov (.tmp 153)), .none⟩, ⟨(.some 16), (.mov (.tmp 155)), .none⟩]) (.seq (.draw [(⟨(.some 156), (.mov (.tmp 16)), .none⟩, (false, [])), (⟨(.some 157), (.bin .lss (.tmp 156) (.const (.int .i64 0))), .none⟩, (false, [])), (⟨(.some 158), (.mov (.tmp 157)), .none⟩, (false, [])), (⟨(.some 159), (.mov (.tmp 16)), (.some (158, false))⟩, (false, [])), (⟨(.some 160), (.mov (.tmp 8)), (.some (158, false))⟩, (false, [])), (⟨(.some 161), (.len (.tmp 160)), (.some (158, false))⟩, (false, [])), (⟨(.some 162), (.bin .geq (.tmp 159) (.tmp 161)), (.some (158, false))⟩, (false, [])), (⟨(.some 163), (.pick (.tmp 158) (.const (.bool true)) (.tmp 162)), .none⟩, (false, [])), (⟨(.some 164), (.mov (.tmp 163)), .none⟩, (false, [])), (⟨(.some 165), (.mov (.tmp 8)), (.some (164, false))⟩, (false, [])), (⟨(.some 166), (.mov (.tmp 16)), (.some (164, false))⟩, (false, [])), (⟨(.some 167), (.iadr 5 (.tmp 165) (.tmp 166)), (.some (164, false))⟩, (false, [])), (⟨(.some 168), (.fadr 0 (.tmp 167)), (.some (164, false))⟩, (false, [])), (⟨(.some 169), (.ld (.tmp 168)), (.some (164, false))⟩, (false, [])), (⟨(.some 170), (.mov (.tmp 15)), (.some (164, false))⟩, (false, [])), (⟨(.some 171), (.bin .neq (.tmp 169) (.tmp 170)), (.some (164, false))⟩, (false, [])), (⟨(.some 172), (.pick (.tmp 164) (.const (.bool true)) (.tmp 171)), .none⟩, (false, [])), (⟨(.some 173), (.mov (.tmp 172)), .none⟩, (false, [])), (⟨(.some 174), (.mov (.tmp 15)), (.some (173, false))⟩, (false, [])), (⟨(.some 175), (.bin .gtr (.tmp 174) (.const (.int .i64 0))), (.some (173, false))⟩, (false, [])), (⟨(.some 176), (.mov (.tmp 175)), (.some (173, false))⟩, (false, [])), (⟨(.some 177), (.mov (.tmp 8)), (.some (176, true))⟩, (false, [])), (⟨(.some 178), (.mov (.tmp 16)), (.some (176, true))⟩, (false, [])), (⟨(.some 179), (.iadr 5 (.tmp 177) (.tmp 178)), (.some (176, true))⟩, (false, [])), (⟨(.some 180), (.fadr 1 (.tmp 179)), (.some (176, true))⟩, (false, [])), (⟨(.some 181), (.ld (.tmp 180)), (.some (176, true))⟩, (false, [])), (⟨(.some 182), (.mov (.tmp 13)), (.some (176, true))⟩, (false, [])), (⟨(.some 183), (.mov (.tmp 15)), (.some (176, true))⟩, (false, [])), (⟨(.some 184), (.bin .sub (.tmp 183) (.const (.int .i64 1))), (.some (176, true))⟩, (false, [])), (⟨(.some 185), (.iadr 1 (.tmp 182) (.tmp 184)), (.some (176, true))⟩, (false, [])), (⟨(.some 186), (.ld (.tmp 185)), (.some (176, true))⟩, (false, [])), (⟨(.some 187), (.bin .neq (.tmp 181) (.tmp 186)), (.some (176, true))⟩, (false, [])), (⟨(.some 188), (.pick (.tmp 176) (.tmp 187) (.const (.bool false))), (.some (173, false))⟩, (false, [])), (⟨(.some 189), (.pick (.tmp 173) (.const (.bool true)) (.tmp 188)), .none⟩, (false, []))]) (.cond (.tmp 189) (.seq (.ops [⟨(.some 6), (.mov (.const (.bool false))), .none⟩]) .ret) .skip)))) (.ops [⟨(.some 190), (.bin .add (.tmp 151) (.const (.int .i64 1))), .none⟩, ⟨(.some 151), (.mov (.tmp 190)), .none⟩])))))))))))) (.ops [⟨(.some 191), (.bin .add (.tmp 77) (.const (.int .i64 1))), .none⟩, ⟨(.some 77), (.mov (.tmp 191)), .none⟩]))))))) (.seq (.ops [⟨(.some 193), (.mov (.tmp 8)), .none⟩, ⟨(.some 194), (.call 194 9 [(.tmp 193), (.const (.int .i64 (-1)))]), .none⟩, ⟨(.some 192), (.mov (.tmp 194)), .none⟩, ⟨(.some 195), (.ext (.tmp 192) 0), .none⟩, ⟨(.some 196), (.ext (.tmp 192) 1), .none⟩, ⟨(.some 17), (.mov (.tmp 195)), .none⟩, ⟨(.some 18), (.mov (.tmp 196)), .none⟩]) (.seq (.ops [⟨(.some 198), (.mov (.tmp 8)), .none⟩, ⟨(.some 199), (.mov (.tmp 8)), .none⟩, ⟨(.some 200), (.len (.tmp 199)), .none⟩, ⟨(.some 201), (.call 201 9 [(.tmp 198), (.tmp 200)]), .none⟩, ⟨(.some 197), (.mov (.tmp 201)), .none⟩, ⟨(.some 202), (.ext (.tmp 197) 0), .none⟩, ⟨(.some 203), (.ext (.tmp 197) 1), .none⟩, ⟨(.some 19), (.mov (.tmp 202)), .none⟩, ⟨(.some 20), (.mov (.tmp 203)), .none⟩]) (.seq (.ops [⟨(.some 204), (.mov (.tmp 18)), .none⟩, ⟨(.some 205), (.bin .eql (.tmp 204) (.const (.int .i64 1))), .none⟩, ⟨(.some 206), (.mov (.tmp 205)), .none⟩, ⟨(.some 207), (.mov (.tmp 20)), (.some (206, true))⟩, ⟨(.some 208), (.bin .eql (.tmp 207) (.const (.int .i64 1))), (.some (206, true))⟩, ⟨(.some 209), (.pick (.tmp 206) (.tmp 208) (.const (.bool false))), .none⟩, ⟨(.some 6), (.mov (.tmp 209)), .none⟩]) .ret)))))))))), [(6, .none)]⟩
theorem c3 : cmpF Try.prog [] [] 3 = some a3 := by kernel_rfl
theorem treeWalks_giv (y0 : List Int) (h0 : (y0.length * 1 ≤ 140737488351232 ∧ ∀ z ∈ y0, 0 ≤ z ∧ z ≤ 255)) (y1 : (Bool) × (Bool) × (Int)) (h1 : (True ∧ True ∧ (0 ≤ y1.2.2 ∧ y1.2.2 ≤ 18446744073709551615))) (y2 : (Int) × (Int)) (h2 : ((-9223372036854775808 ≤ y2.1 ∧ y2.1 ≤ 9223372036854775807) ∧ (-9223372036854775808 ≤ y2.2 ∧ y2.2 ≤ 9223372036854775807))) : Giv Try.prog 3 [.lst 1 (li .u8 y0), .agg [.c (.bool y1.1), .c (.bool y1.2.1), .c (.int .u64 y1.2.2)], .agg [.c (.int .i64 y2.1), .c (.int .i64 y2.2)]] (.d (.c (.bool true))) := by
  obtain ⟨big, large, first⟩ := y1
  obtain ⟨-, -, ha⟩ := h1
  obtain ⟨most, deep⟩ := y2
  obtain ⟨hm, hd⟩ := h2
  dsimp only at ha hm hd ⊢
  obtain ⟨first, rfl⟩ := Int.eq_ofNat_of_zero_le ha.1
  have hf : first < 18446744073709551616 := by omega
  have hll := li_length (k := .u8) (l := y0)
  have hB : Bytes y0 := fun z hz => by have := h0.2 z hz; omega
  refine Giv.of (out := [.c (.bool true)]) mixed c3 (Nat.le_of_ble_eq_true rfl) ?_
  by_cases hb0 : y0.length > 2000
  · simp -dsimp -implicitDefEqProofs (disch := first | omega | (simp only [List.length_append, List.length_cons, List.length_nil, List.length_take, List.length_drop]; omega)) only [a3, List.replicate_succ, List.replicate_zero, ↓aPre, aPost, oneW, allOne, retV, retVA, simprocAttr]
    refine call_giv lives_giv ?_
    simp -dsimp -implicitDefEqProofs (disch := first | omega | (simp only [List.length_append, List.length_cons, List.length_nil, List.length_take, List.length_drop]; omega)) only [hll, ↓aPre, aPost, oneW, allOne, retV, retVA, simprocAttr]
    refine call_giv lives_giv ?_
    simp -dsimp -implicitDefEqProofs (disch := first | omega | (simp only [List.length_append, List.length_cons, List.length_nil, List.length_take, List.length_drop]; omega)) only [↓aPre, aPost, oneW, allOne, retV, retVA, simprocAttr]
    exact post_eq rfl
  by_cases hb1 : most > 200
  · simp -dsimp -implicitDefEqProofs (disch := first | omega | (simp only [List.length_append, List.length_cons, List.length_nil, List.length_take, List.length_drop]; omega)) only [a3, List.replicate_succ, List.replicate_zero, ↓aPre, aPost, oneW, allOne, retV, retVA, simprocAttr]
    refine call_giv lives_giv ?_
    simp -dsimp -implicitDefEqProofs (disch := first | omega | (simp only [List.length_append, List.length_cons, List.length_nil, List.length_take, List.length_drop]; omega)) only [hll, hb1, ↓aPre, aPost, oneW, allOne, retV, retVA, simprocAttr]
    refine call_giv lives_giv ?_
    simp -dsimp -implicitDefEqProofs (disch := first | omega | (simp only [List.length_append, List.length_cons, List.length_nil, List.length_take, List.length_drop]; omega)) only [↓aPre, aPost, oneW, allOne, retV, retVA, simprocAttr]
    exact post_eq rfl
  have g6 := walk_giv y0 big large first most deep (by omega) hB hf hm
  have g7 := rwalk_giv y0 big large first most deep (by omega) hB hf hm
  obtain ⟨w1, w2, w3⟩ := walk_ok y0 big large first most deep hB hf
  obtain ⟨R, hR⟩ : ∃ R, R = walkS y0 big large first most deep := ⟨_, rfl⟩
  rw [← hR] at g6 g7 w1 w2 w3
  obtain ⟨l, e⟩ := R
  dsimp only at g6 g7 w1 w2 w3
  rw [hD] at g6 g7
  have hlen := its_len l
  have gm := path_e l (by omega) (-1) (.inl (by decide))
  have gl := path_e l (by omega) l.length (.inr (Int.le_refl _))
  simp -dsimp -implicitDefEqProofs (disch := first | omega | (simp only [List.length_append, List.length_cons, List.length_nil, List.length_take, List.length_drop]; omega)) only [a3, List.replicate_succ, List.replicate_zero, ↓aPre, aPost, oneW, allOne, retV, retVA, simprocAttr]
  refine call_giv lives_giv ?_
  simp -dsimp -implicitDefEqProofs (disch := first | omega | (simp only [List.length_append, List.length_cons, List.length_nil, List.length_take, List.length_drop]; omega)) only [hll, ↓aPre, aPost, oneW, allOne, retV, retVA, simprocAttr]
  refine call_giv g6 ?_
  simp -dsimp -implicitDefEqProofs (disch := first | omega | (simp only [List.length_append, List.length_cons, List.length_nil, List.length_take, List.length_drop]; omega)) only [hll, ↓aPre, aPost, oneW, allOne, retV, retVA, simprocAttr]
  refine call_giv g7 ?_
  simp -dsimp -implicitDefEqProofs (disch := first | omega | (simp only [List.length_append, List.length_cons, List.length_nil, List.length_take, List.length_drop]; omega)) only [hlen, ↓aPre, aPost, oneW, allOne, retV, retVA, simprocAttr]
  refine loop_of (fun st => ∃ i : Nat, i ≤ l.length ∧ st.tm 77 = .d (.c (.int .i64 i)) ∧ st.tm 76 = .d (.c (.int .i64 l.length)) ∧ st.tm 8 = .d (.lst 5 (l.map itD)) ∧ st.tm 10 = .d (.lst 5 (l.map itD))) (fun st => l.length - (avN (st.tm 77)).toNat) ?_ ?_
  · refine ⟨0, Nat.zero_le _, ?_⟩
    simp -dsimp -implicitDefEqProofs (disch := first | omega | (simp only [List.length_append, List.length_cons, List.length_nil, List.length_take, List.length_drop]; omega)) only [↓aPre, aPost, oneW, allOne, retV, retVA, simprocAttr]
  rintro st ⟨i, hi, hs⟩
  by_cases hlt : i < l.length
  rotate_left
  · simp -dsimp -implicitDefEqProofs (disch := first | omega | (simp only [List.length_append, List.length_cons, List.length_nil, List.length_take, List.length_drop]; omega)) only [hs, ↓aPre, aPost, oneW, allOne, retV, retVA, simprocAttr]
    refine call_giv gm ?_
    simp -dsimp -implicitDefEqProofs (disch := first | omega | (simp only [List.length_append, List.length_cons, List.length_nil, List.length_take, List.length_drop]; omega)) only [hs, hlen, ↓aPre, aPost, oneW, allOne, retV, retVA, simprocAttr]
    refine call_giv gl ?_
    simp -dsimp -implicitDefEqProofs (disch := first | omega | (simp only [List.length_append, List.length_cons, List.length_nil, List.length_take, List.length_drop]; omega)) only [hs, ↓aPre, aPost, oneW, allOne, retV, retVA, simprocAttr]
    exact post_eq rfl
  have hg := it_get hlt
  have hmx := itx_mem hlt
  have hp := path_giv l (by omega) w1 i hlt
  have hok := pth_ok w1 (i + 1) i hlt (Nat.lt_succ_self _)
  have hdp := w1.dep i hlt
  obtain ⟨p, hpp⟩ : ∃ p, p = pth l (i + 1) i := ⟨_, rfl⟩
  rw [← hpp] at hp hok
  have hpl := hok.len
  have hpla := hok.last
  obtain ⟨x, hx⟩ : ∃ x, x = itx l i := ⟨_, rfl⟩
  rw [← hx] at hg hmx hpl hdp
  rw [itD] at hg
  have hsame := dsame_giv [x.2.2] (by simp) (fun d hd => by simp only [List.mem_cons, List.not_mem_nil, or_false] at hd; subst hd; exact w3 x hmx)
  rw [List.map_cons, List.map_nil, dirD] at hsame
  have hpl2 := li_length (k := .i64) (l := p)
  obtain ⟨m, hm1⟩ : ∃ m, m = p.length - 1 := ⟨_, rfl⟩
  have i1 : (p.length : Int) - 1 = (m : Int) := by omega
  have i2 : x.1 + 1 = (p.length : Int) := by omega
  have i3 : (p.length : Int) = x.1 + 1 := by omega
  rw [← hm1] at hpla
  simp -dsimp -implicitDefEqProofs (disch := first | omega | (simp only [List.length_append, List.length_cons, List.length_nil, List.length_take, List.length_drop]; omega)) only [hs, hlen, hg, ↓aPre, aPost, oneW, allOne, retV, retVA, simprocAttr]
  refine ⟨?_, ?_⟩
  all_goals
    refine call_giv hsame ?_
    simp -dsimp -implicitDefEqProofs (disch := first | omega | (simp only [List.length_append, List.length_cons, List.length_nil, List.length_take, List.length_drop]; omega)) only [hs, hlen, hg, ↓aPre, aPost, oneW, allOne, retV, retVA, simprocAttr]
    refine call_giv hp ?_
    simp -dsimp -implicitDefEqProofs (disch := first | omega | (simp only [List.length_append, List.length_cons, List.length_nil, List.length_take, List.length_drop]; omega)) only [hs, hlen, hg, hpl2, i1, i2, hpla, ↓aPre, aPost, oneW, allOne, retV, retVA, simprocAttr]
    have hs0 := hs
    refine loop_of (fun st => ∃ k : Nat, k ≤ p.length ∧ st.tm 151 = .d (.c (.int .i64 k)) ∧ st.tm 150 = .d (.c (.int .i64 p.length)) ∧ st.tm 149 = .d (.lst 1 (li .i64 p)) ∧ st.tm 13 = .d (.lst 1 (li .i64 p)) ∧ st.tm 77 = .d (.c (.int .i64 i)) ∧ st.tm 76 = .d (.c (.int .i64 l.length)) ∧ st.tm 8 = .d (.lst 5 (l.map itD)) ∧ st.tm 10 = .d (.lst 5 (l.map itD))) (fun st => p.length - (avN (st.tm 151)).toNat) ?_ ?_
    · refine ⟨0, Nat.zero_le _, ?_⟩
      simp -dsimp -implicitDefEqProofs (disch := first | omega | (simp only [List.length_append, List.length_cons, List.length_nil, List.length_take, List.length_drop]; omega)) only [hs, ↓aPre, aPost, oneW, allOne, retV, retVA, simprocAttr]
    clear hs
    rintro st2 ⟨k, hk, hs⟩
    by_cases hlt2 : k < p.length
    · obtain ⟨n, n1, n2, n3, n4⟩ := hok.el k hlt2
      have hgn := it_get n2
      obtain ⟨y, hy⟩ : ∃ y, y = itx l n := ⟨_, rfl⟩
      rw [← hy] at hgn n3 n4
      rw [itD] at hgn
      by_cases hk0 : 0 < k
      · obtain ⟨k1, hk1⟩ : ∃ k1, k1 = k - 1 := ⟨_, rfl⟩
        have j1 : (k : Int) - 1 = (k1 : Int) := by omega
        have n5 := n4 hk0
        rw [← hk1] at n5
        simp -dsimp -implicitDefEqProofs (disch := first | omega | (simp only [List.length_append, List.length_cons, List.length_nil, List.length_take, List.length_drop]; omega)) only [hs, hpl2, hlen, n1, hgn, n3, n5, j1, ↓aPre, aPost, oneW, allOne, retV, retVA, simprocAttr]
        refine round_of ⟨k + 1, by omega, ?_⟩ ?_
        · simp -dsimp -implicitDefEqProofs (disch := first | omega | (simp only [List.length_append, List.length_cons, List.length_nil, List.length_take, List.length_drop]; omega)) only [hs, ↓aPre, aPost, oneW, allOne, retV, retVA, simprocAttr]
        · simp -dsimp -implicitDefEqProofs (disch := first | omega | (simp only [List.length_append, List.length_cons, List.length_nil, List.length_take, List.length_drop]; omega)) only [hs, ↓aPre, aPost, oneW, allOne, retV, retVA, simprocAttr]
          omega
      · obtain rfl : k = 0 := by omega
        rw [Int.natCast_zero] at n3
        simp -dsimp -implicitDefEqProofs (disch := first | omega | (simp only [List.length_append, List.length_cons, List.length_nil, List.length_take, List.length_drop]; omega)) only [hs, hpl2, hlen, n1, hgn, n3, ↓aPre, aPost, oneW, allOne, retV, retVA, simprocAttr]
        refine round_of ⟨1, by omega, ?_⟩ ?_
        · simp -dsimp -implicitDefEqProofs (disch := first | omega | (simp only [List.length_append, List.length_cons, List.length_nil, List.length_take, List.length_drop]; omega)) only [hs, ↓aPre, aPost, oneW, allOne, retV, retVA, simprocAttr]
        · simp -dsimp -implicitDefEqProofs (disch := first | omega | (simp only [List.length_append, List.length_cons, List.length_nil, List.length_take, List.length_drop]; omega)) only [hs, ↓aPre, aPost, oneW, allOne, retV, retVA, simprocAttr]
          omega
    · simp -dsimp -implicitDefEqProofs (disch := first | omega | (simp only [List.length_append, List.length_cons, List.length_nil, List.length_take, List.length_drop]; omega)) only [hs, ↓aPre, aPost, oneW, allOne, retV, retVA, simprocAttr]
      refine round_of ⟨i + 1, by omega, ?_⟩ ?_
      · simp -dsimp -implicitDefEqProofs (disch := first | omega | (simp only [List.length_append, List.length_cons, List.length_nil, List.length_take, List.length_drop]; omega)) only [hs, ↓aPre, aPost, oneW, allOne, retV, retVA, simprocAttr]
      · simp -dsimp -implicitDefEqProofs (disch := first | omega | (simp only [List.length_append, List.length_cons, List.length_nil, List.length_take, List.length_drop]; omega)) only [hs, hs0, ↓aPre, aPost, oneW, allOne, retV, retVA, simprocAttr]
        omega
end Go.Proofs.Ytpjnpmdmcllilaa
