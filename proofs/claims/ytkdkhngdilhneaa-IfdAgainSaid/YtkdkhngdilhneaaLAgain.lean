/- IfdAgain: the law's function gives true of all data. No condition but that whole numbers are of their kinds. -/
import Derived.Test.YtkdkhngdilhneaaLBack2
import Derived.Test.YtkdkhngdilhneaaWHeadO
import Derived.Test.YtkdkhngdilhneaaWChain
set_option linter.unusedSimpArgs false
set_option linter.unusedVariables false
set_option maxRecDepth 8000
set_option maxHeartbeats 16000000
namespace Go.Proofs.Ytkdkhngdilhneaa
open Go.Eng Go.RowKit
def a6 : AFn := ⟨204, (.seq (.ops [⟨(.some 6), (.mov (.const (.bool false))), .none⟩]) (.seq (.seq (.ops [⟨(.some 31), (.call 31 7 []), .none⟩, ⟨(.some 32), (.un .not (.tmp 31)), .none⟩, ⟨(.some 33), (.mov (.tmp 32)), .none⟩, ⟨(.some 34), (.mov (.tmp 0)), (.some (33, false))⟩, ⟨(.some 35), (.len (.tmp 34)), (.some (33, false))⟩, ⟨(.some 36), (.bin .gtr (.tmp 35) (.const (.int .i64 6))), (.some (33, false))⟩, ⟨(.some 37), (.pick (.tmp 33) (.const (.bool true)) (.tmp 36)), .none⟩, ⟨(.some 38), (.mov (.tmp 37)), .none⟩, ⟨(.some 39), (.mov (.tmp 0)), (.some (38, false))⟩, ⟨(.some 40), (.len (.tmp 39)), (.some (38, false))⟩, ⟨(.some 41), (.bin .eql (.tmp 40) (.const (.int .i64 0))), (.some (38, false))⟩, ⟨(.some 42), (.pick (.tmp 38) (.const (.bool true)) (.tmp 41)), .none⟩]) (.cond (.tmp 42) (.seq (.ops [⟨(.some 43), (.call 43 7 []), .none⟩, ⟨(.some 6), (.mov (.tmp 43)), .none⟩]) .ret) .skip)) (.seq (.ops [⟨(.some 44), (.mov (.tmp 1)), .none⟩, ⟨(.some 45), (.mov (.tmp 2)), .none⟩, ⟨(.some 46), (.mov (.tmp 2)), .none⟩, ⟨(.some 47), (.call 47 12 [(.tmp 46)]), .none⟩, ⟨(.some 48), (.cvI .u64 (.tmp 47)), .none⟩, ⟨(.some 49), (.bin .add (.tmp 48) (.const (.int .u64 4))), .none⟩, ⟨(.some 50), (.build [(.bool false), (.bool false), (.int .u64 0)] [(0, (1, (.tmp 44))), (1, (1, (.tmp 45))), (2, (1, (.tmp 49)))]), .none⟩, ⟨(.some 7), (.alloc 7 [(.bool false), (.bool false), (.int .u64 0)]), .none⟩, ⟨.none, (.st 3 (.tmp 7) (.tmp 50)), .none⟩]) (.seq (.ops [⟨(.some 51), (.fadr 2 (.tmp 7)), .none⟩, ⟨(.some 52), (.ld (.tmp 51)), .none⟩, ⟨(.some 8), (.mov (.tmp 52)), .none⟩]) (.seq (.ops [⟨(.some 9), (.mov (.const (.slice .none 0 0))), .none⟩]) (.seq (.seq (.ops [⟨(.some 53), (.mov (.tmp 0)), .none⟩, ⟨(.some 54), (.len (.tmp 53)), .none⟩, ⟨(.some 55), (.mov (.const (.int .i64 0))), .none⟩]) (.block 0 (.loop (.seq (.ops [⟨(.some 56), (.bin .lss (.tmp 55) (.tmp 54)), .none⟩]) (.seq (.cond (.tmp 56) .skip (.exit 0)) (.seq (.block 1 (.seq (.ops [⟨(.some 57), (.iadr 1 (.tmp 53) (.tmp 55)), .none⟩, ⟨(.some 58), (.ld (.tmp 57)), .none⟩, ⟨(.some 11), (.mov (.tmp 58)), .none⟩]) (.seq (.seq (.ops [⟨(.some 59), (.mov (.tmp 11)), .none⟩, ⟨(.some 60), (.call 60 13 [(.tmp 59)]), .none⟩, ⟨(.some 61), (.un .not (.tmp 60)), .none⟩]) (.cond (.tmp 61) (.seq (.ops [⟨(.some 6), (.mov (.const (.bool true))), .none⟩]) .ret) .skip)) (.seq (.ops [⟨(.some 63), (.mov (.tmp 11)), .none⟩, ⟨(.some 64), (.mov (.tmp 2)), .none⟩, ⟨(.some 65), (.call 65 16 [(.tmp 63), (.tmp 64)]), .none⟩, ⟨(.some 62), (.mov (.tmp 65)), .none⟩, ⟨(.some 66), (.ext (.tmp 62) 0), .none⟩, ⟨(.some 67), (.ext (.tmp 62) 1), .none⟩, ⟨(.some 12), (.mov (.tmp 66)), .none⟩, ⟨(.some 13), (.mov (.tmp 67)), .none⟩]) (.seq (.seq (.ops [⟨(.some 68), (.mov (.tmp 13)), .none⟩, ⟨(.some 69), (.bin .neq (.tmp 68) (.const (.int .i64 0))), .none⟩]) (.cond (.tmp 69) (.seq (.ops [⟨(.some 6), (.mov (.const (.bool true))), .none⟩]) .ret) .skip)) (.seq (.ops [⟨(.some 70), (.mov (.tmp 8)), .none⟩, ⟨(.some 71), (.mov (.tmp 12)), .none⟩, ⟨(.some 72), (.cvI .u64 (.tmp 71)), .none⟩, ⟨(.some 73), (.bin .add (.tmp 72) (.const (.int .u64 2))), .none⟩, ⟨(.some 74), (.bin .add (.tmp 70) (.tmp 73)), .none⟩, ⟨(.some 8), (.mov (.tmp 74)), .none⟩]) (.ops [⟨(.some 75), (.mov (.tmp 9)), .none⟩, ⟨(.some 76), (.mov (.tmp 8)), .none⟩, ⟨(.some 77), (.lit 1 [(.tmp 76)]), .none⟩, ⟨(.some 78), (.app 78 1 8 (.tmp 75) (.tmp 77)), .none⟩, ⟨(.some 9), (.mov (.tmp 78)), .none⟩]))))))) (.ops [⟨(.some 79), (.bin .add (.tmp 55) (.const (.int .i64 1))), .none⟩, ⟨(.some 55), (.mov (.tmp 79)), .none⟩]))))))) (.seq (.seq (.ops [⟨(.some 80), (.lit 1 [(.const (.bool false)), (.const (.bool true))]), .none⟩, ⟨(.some 81), (.len (.tmp 80)), .none⟩, ⟨(.some 82), (.mov (.const (.int .i64 0))), .none⟩]) (.block 2 (.loop (.seq (.ops [⟨(.some 83), (.bin .lss (.tmp 82) (.tmp 81)), .none⟩]) (.seq (.cond (.tmp 83) .skip (.exit 2)) (.seq (.block 3 (.seq (.ops [⟨(.some 84), (.iadr 1 (.tmp 80) (.tmp 82)), .none⟩, ⟨(.some 85), (.ld (.tmp 84)), .none⟩, ⟨(.some 15), (.mov (.tmp 85)), .none⟩]) (.seq (.ops [⟨(.some 87), (.ldn 3 (.tmp 7)), .none⟩, ⟨(.some 88), (.call 88 10 [(.tmp 87)]), .none⟩, ⟨(.some 86), (.mov (.tmp 88)), .none⟩, ⟨(.some 89), (.ext (.tmp 86) 0), .none⟩, ⟨(.some 90), (.ext (.tmp 86) 1), .none⟩, ⟨(.some 16), (.mov (.tmp 89)), .none⟩, ⟨(.some 17), (.mov (.tmp 90)), .none⟩]) (.seq (.ops [⟨(.some 91), (.mov (.tmp 16)), .none⟩, ⟨(.some 92), (.lit 1 [(.const (.int .u8 1)), (.const (.int .u8 2)), (.const (.int .u8 3)), (.const (.int .u8 4))]), .none⟩, ⟨(.some 93), (.app 93 1 1 (.tmp 91) (.tmp 92)), .none⟩, ⟨(.some 16), (.mov (.tmp 93)), .none⟩]) (.seq (.seq (.ops [⟨(.some 94), (.mov (.tmp 17)), .none⟩, ⟨(.some 95), (.bin .neq (.tmp 94) (.const (.int .i64 0))), .none⟩]) (.cond (.tmp 95) (.seq (.ops [⟨(.some 6), (.mov (.const (.bool false))), .none⟩]) .ret) .skip)) (.seq (.ops [⟨(.some 96), (.fadr 2 (.tmp 7)), .none⟩, ⟨(.some 97), (.ld (.tmp 96)), .none⟩, ⟨(.some 8), (.mov (.tmp 97)), .none⟩]) (.seq (.seq (.ops [⟨(.some 98), (.mov (.tmp 0)), .none⟩, ⟨(.some 99), (.len (.tmp 98)), .none⟩, ⟨(.some 100), (.mov (.const (.int .i64 0))), .none⟩]) (.block 4 (.loop (.seq (.ops [⟨(.some 101), (.bin .lss (.tmp 100) (.tmp 99)), .none⟩]) (.seq (.cond (.tmp 101) .skip (.exit 4)) (.seq (.block 5 (.seq (.ops [⟨(.some 102), (.mov (.tmp 100)), .none⟩, ⟨(.some 103), (.iadr 1 (.tmp 98) (.tmp 100)), .none⟩, ⟨(.some 104), (.ld (.tmp 103)), .none⟩, ⟨(.some 18), (.mov (.tmp 102)), .none⟩, ⟨(.some 19), (.mov (.tmp 104)), .none⟩]) (.seq (.ops [⟨(.some 105), (.mov (.tmp 9)), .none⟩, ⟨(.some 106), (.mov (.tmp 18)), .none⟩, ⟨(.some 107), (.iadr 1 (.tmp 105) (.tmp 106)), .none⟩, ⟨(.some 108), (.ld (.tmp 107)), .none⟩, ⟨(.some 20), (.mov (.tmp 108)), .none⟩]) (.seq (.seq (.ops [⟨(.some 109), (.mov (.tmp 18)), .none⟩, ⟨(.some 110), (.mov (.tmp 0)), .none⟩, ⟨(.some 111), (.len (.tmp 110)), .none⟩, ⟨(.some 112), (.bin .sub (.tmp 111) (.const (.int .i64 1))), .none⟩, ⟨(.some 113), (.bin .eql (.tmp 109) (.tmp 112)), .none⟩]) (.cond (.tmp 113) (.seq (.ops [⟨(.some 20), (.mov (.const (.int .u64 0))), .none⟩]) (.seq (.ops [⟨(.some 114), (.mov (.tmp 15)), .none⟩]) (.cond (.tmp 114) (.ops [⟨(.some 115), (.fadr 2 (.tmp 7)), .none⟩, ⟨(.some 116), (.ld (.tmp 115)), .none⟩, ⟨(.some 20), (.mov (.tmp 116)), .none⟩]) .skip))) .skip)) (.seq (.ops [⟨(.some 118), (.mov (.tmp 19)), .none⟩, ⟨(.some 119), (.ldn 3 (.tmp 7)), .none⟩, ⟨(.some 120), (.mov (.tmp 8)), .none⟩, ⟨(.some 121), (.mov (.tmp 20)), .none⟩, ⟨(.some 122), (.call 122 14 [(.tmp 118), (.tmp 119), (.tmp 120), (.tmp 121)]), .none⟩, ⟨(.some 117), (.mov (.tmp 122)), .none⟩, ⟨(.some 123), (.ext (.tmp 117) 0), .none⟩, ⟨(.some 124), (.ext (.tmp 117) 1), .none⟩, ⟨(.some 21), (.mov (.tmp 123)), .none⟩, ⟨(.some 22), (.mov (.tmp 124)), .none⟩]) (.seq (.seq (.ops [⟨(.some 125), (.mov (.tmp 22)), .none⟩, ⟨(.some 126), (.bin .neq (.tmp 125) (.const (.int .i64 0))), .none⟩]) (.cond (.tmp 126) (.seq (.ops [⟨(.some 127), (.mov (.tmp 22)), .none⟩, ⟨(.some 128), (.bin .eql (.tmp 127) (.const (.int .i64 7))), .none⟩, ⟨(.some 6), (.mov (.tmp 128)), .none⟩]) .ret) .skip)) (.seq (.ops [⟨(.some 129), (.mov (.tmp 16)), .none⟩, ⟨(.some 130), (.mov (.tmp 21)), .none⟩, ⟨(.some 131), (.app 131 1 1 (.tmp 129) (.tmp 130)), .none⟩, ⟨(.some 132), (.lit 1 [(.const (.int .u8 7)), (.const (.int .u8 7))]), .none⟩, ⟨(.some 133), (.app 133 1 1 (.tmp 131) (.tmp 132)), .none⟩, ⟨(.some 16), (.mov (.tmp 133)), .none⟩]) (.ops [⟨(.some 134), (.mov (.tmp 9)), .none⟩, ⟨(.some 135), (.mov (.tmp 18)), .none⟩, ⟨(.some 136), (.iadr 1 (.tmp 134) (.tmp 135)), .none⟩, ⟨(.some 137), (.ld (.tmp 136)), .none⟩, ⟨(.some 8), (.mov (.tmp 137)), .none⟩])))))))) (.ops [⟨(.some 138), (.bin .add (.tmp 100) (.const (.int .i64 1))), .none⟩, ⟨(.some 100), (.mov (.tmp 138)), .none⟩]))))))) (.seq (.ops [⟨(.some 140), (.mov (.tmp 16)), .none⟩, ⟨(.some 141), (.call 141 8 [(.tmp 140)]), .none⟩, ⟨(.some 139), (.mov (.tmp 141)), .none⟩, ⟨(.some 142), (.ext (.tmp 139) 0), .none⟩, ⟨(.some 143), (.ext (.tmp 139) 1), .none⟩, ⟨(.some 23), (.alloc 23 [(.bool false), (.bool false), (.int .u64 0)]), .none⟩, ⟨.none, (.st 3 (.tmp 23) (.tmp 142)), .none⟩, ⟨(.some 24), (.mov (.tmp 143)), .none⟩]) (.seq (.ops [⟨(.some 145), (.mov (.tmp 16)), .none⟩, ⟨(.some 146), (.ldn 3 (.tmp 23)), .none⟩, ⟨(.some 147), (.mov (.tmp 0)), .none⟩, ⟨(.some 148), (.len (.tmp 147)), .none⟩, ⟨(.some 149), (.call 149 20 [(.tmp 145), (.tmp 146), (.tmp 148)]), .none⟩, ⟨(.some 144), (.mov (.tmp 149)), .none⟩, ⟨(.some 150), (.ext (.tmp 144) 0), .none⟩, ⟨(.some 151), (.ext (.tmp 144) 1), .none⟩, ⟨(.some 25), (.mov (.tmp 150)), .none⟩, ⟨(.some 26), (.mov (.tmp 151)), .none⟩]) (.seq (.seq (.ops [⟨(.some 152), (.mov (.tmp 24)), .none⟩, ⟨(.some 153), (.bin .neq (.tmp 152) (.const (.int .i64 0))), .none⟩, ⟨(.some 154), (.mov (.tmp 153)), .none⟩, ⟨(.some 155), (.ldn 3 (.tmp 23)), (.some (154, false))⟩, ⟨(.some 156), (.ldn 3 (.tmp 7)), (.some (154, false))⟩, ⟨(.some 157), (.eqG [true, true, false] true (.tmp 155) (.tmp 156)), (.some (154, false))⟩, ⟨(.some 158), (.pick (.tmp 154) (.const (.bool true)) (.tmp 157)), .none⟩]) (.cond (.tmp 158) (.seq (.ops [⟨(.some 6), (.mov (.const (.bool false))), .none⟩]) .ret) .skip)) (.seq (.seq (.ops [⟨(.some 159), (.mov (.tmp 15)), .none⟩]) (.cond (.tmp 159) (.seq (.seq (.ops [⟨(.some 160), (.mov (.tmp 26)), .none⟩, ⟨(.some 161), (.bin .neq (.tmp 160) (.const (.int .i64 13))), .none⟩, ⟨(.some 162), (.mov (.tmp 161)), .none⟩, ⟨(.some 163), (.mov (.tmp 25)), (.some (162, false))⟩, ⟨(.some 164), (.len (.tmp 163)), (.some (162, false))⟩, ⟨(.some 165), (.bin .neq (.tmp 164) (.const (.int .i64 0))), (.some (162, false))⟩, ⟨(.some 166), (.pick (.tmp 162) (.const (.bool true)) (.tmp 165)), .none⟩]) (.cond (.tmp 166) (.seq (.ops [⟨(.some 6), (.mov (.const (.bool false))), .none⟩]) .ret) .skip)) (.exit 3)) .skip)) (.seq (.seq (.ops [⟨(.some 167), (.mov (.tmp 26)), .none⟩, ⟨(.some 168), (.bin .neq (.tmp 167) (.const (.int .i64 0))), .none⟩, ⟨(.some 169), (.mov (.tmp 168)), .none⟩, ⟨(.some 170), (.mov (.tmp 25)), (.some (169, false))⟩, ⟨(.some 171), (.len (.tmp 170)), (.some (169, false))⟩, ⟨(.some 172), (.mov (.tmp 0)), (.some (169, false))⟩, ⟨(.some 173), (.len (.tmp 172)), (.some (169, false))⟩, ⟨(.some 174), (.bin .neq (.tmp 171) (.tmp 173)), (.some (169, false))⟩, ⟨(.some 175), (.pick (.tmp 169) (.const (.bool true)) (.tmp 174)), .none⟩]) (.cond (.tmp 175) (.seq (.ops [⟨(.some 6), (.mov (.const (.bool false))), .none⟩]) .ret) .skip)) (.seq (.seq (.ops [⟨(.some 176), (.mov (.tmp 0)), .none⟩, ⟨(.some 177), (.len (.tmp 176)), .none⟩, ⟨(.some 178), (.mov (.const (.int .i64 0))), .none⟩]) (.block 6 (.loop (.seq (.ops [⟨(.some 179), (.bin .lss (.tmp 178) (.tmp 177)), .none⟩]) (.seq (.cond (.tmp 179) .skip (.exit 6)) (.seq (.block 7 (.seq (.ops [⟨(.some 180), (.mov (.tmp 178)), .none⟩, ⟨(.some 181), (.iadr 1 (.tmp 176) (.tmp 178)), .none⟩, ⟨(.some 182), (.ld (.tmp 181)), .none⟩, ⟨(.some 27), (.mov (.tmp 180)), .none⟩, ⟨(.some 28), (.mov (.tmp 182)), .none⟩]) (.seq (.ops [⟨(.some 183), (.mov (.tmp 25)), .none⟩, ⟨(.some 184), (.mov (.tmp 27)), .none⟩, ⟨(.some 185), (.iadr 3 (.tmp 183) (.tmp 184)), .none⟩, ⟨(.some 186), (.fadr 2 (.tmp 185)), .none⟩, ⟨(.some 187), (.ld (.tmp 186)), .none⟩, ⟨(.some 188), (.mov (.tmp 28)), .none⟩, ⟨(.some 189), (.call 189 24 [(.tmp 187), (.tmp 188)]), .none⟩, ⟨(.some 190), (.un .not (.tmp 189)), .none⟩]) (.cond (.tmp 190) (.seq (.ops [⟨(.some 6), (.mov (.const (.bool false))), .none⟩]) .ret) .skip)))) (.ops [⟨(.some 191), (.bin .add (.tmp 178) (.const (.int .i64 1))), .none⟩, ⟨(.some 178), (.mov (.tmp 191)), .none⟩]))))))) (.seq (.ops [⟨(.some 193), (.mov (.tmp 16)), .none⟩, ⟨(.some 194), (.ldn 3 (.tmp 23)), .none⟩, ⟨(.some 195), (.mov (.tmp 0)), .none⟩, ⟨(.some 196), (.len (.tmp 195)), .none⟩, ⟨(.some 197), (.bin .sub (.tmp 196) (.const (.int .i64 1))), .none⟩, ⟨(.some 198), (.call 198 20 [(.tmp 193), (.tmp 194), (.tmp 197)]), .none⟩, ⟨(.some 192), (.mov (.tmp 198)), .none⟩, ⟨(.some 199), (.ext (.tmp 192) 0), .none⟩, ⟨(.some 200), (.ext (.tmp 192) 1), .none⟩, ⟨(.some 29), (.mov (.tmp 199)), .none⟩, ⟨(.some 30), (.mov (.tmp 200)), .none⟩]) (.seq (.ops [⟨(.some 201), (.mov (.tmp 30)), .none⟩, ⟨(.some 202), (.bin .neq (.tmp 201) (.const (.int .i64 8))), .none⟩]) (.cond (.tmp 202) (.seq (.ops [⟨(.some 6), (.mov (.const (.bool false))), .none⟩]) .ret) .skip)))))))))))))))) (.ops [⟨(.some 203), (.bin .add (.tmp 82) (.const (.int .i64 1))), .none⟩, ⟨(.some 82), (.mov (.tmp 203)), .none⟩]))))))) (.seq (.ops [⟨(.some 6), (.mov (.const (.bool true))), .none⟩]) .ret)))))))), [(6, .none)]⟩
theorem c6 : cmpF Try.prog [] [] 6 = some a6 := by kernel_rfl
theorem gk_pre {X r : List Int} {p n : Nat} {big : Bool} (h : p + n ≤ X.length) : gk (X ++ r) p n big = gk X p n big := by rw [gk, gk, cut_app h]
theorem getD_pre {X r : List Int} {i : Nat} (h : i < X.length) : (X ++ r).getD i 0 = X.getD i 0 := by rw [getD_append, if_pos h]
/-- what was written is read, whatever stands behind it -/
theorem again_x (big wide : Bool) (at_ : Nat) (r : List Int) (hr : Bytes r) (hrl : r.length ≤ 90000) (hat : at_ < 18446744073709551616) (ok : wide = true ∨ at_ < 4294967296) : Giv Try.prog 8 [.lst 1 (li .u8 (headL big wide at_ ++ r))] (retV [hD big wide at_, .c (.int .i64 0)]) := by
  have hl := head_len big wide at_
  have hB := (head_bytes big wide at_).app hr
  have hm := head_mg big wide at_
  cases wide
  · rw [if_neg (by decide)] at hl
    have i1 : gk (headL big false at_ ++ r) 2 2 big = 42 := by rw [gk_pre (by omega), head_n]; exact gk_put _ _ big (magic_len big) (by decide)
    have i2 : gk (headL big false at_ ++ r) 4 4 big = at_ := by
      rw [gk_pre (by omega), head_n, ← List.append_assoc]
      exact gk_put _ _ big (by rw [List.length_append, magic_len, putL_len]) (ok.resolve_left (by decide))
    have := read_n_t (headL big false at_ ++ r) big (by rw [List.length_append]; omega) hB (by rw [List.length_append]; omega) (by rw [getD_pre (by omega)]; exact hm.1) (by rw [getD_pre (by omega)]; exact hm.2) i1
    rw [i2] at this
    exact this
  · rw [if_pos rfl] at hl
    have i1 : gk (headL big true at_ ++ r) 2 2 big = 43 := by rw [gk_pre (by omega), head_w]; exact gk_put _ _ big (magic_len big) (by decide)
    have i2 : gk (headL big true at_ ++ r) 4 2 big = 8 := by
      rw [gk_pre (by omega), head_w, ← List.append_assoc]
      exact gk_put _ _ big (by rw [List.length_append, magic_len, putL_len]) (by decide)
    have i3 : gk (headL big true at_ ++ r) 6 2 big = 0 := by
      rw [gk_pre (by omega), head_w, ← List.append_assoc, ← List.append_assoc]
      exact gk_put _ _ big (by rw [List.length_append, List.length_append, magic_len, putL_len, putL_len]) (by decide)
    have i4 : gk (headL big true at_ ++ r) 8 8 big = at_ := by
      rw [gk_pre (by omega), head_w, ← List.append_assoc, ← List.append_assoc, ← List.append_assoc]
      exact gk_put _ _ big (by rw [List.length_append, List.length_append, List.length_append, magic_len, putL_len, putL_len, putL_len]) hat
    have := read_w_t (headL big true at_ ++ r) big (by rw [List.length_append]; omega) hB (by rw [List.length_append]; omega) (by rw [getD_pre (by omega)]; exact hm.1) (by rw [getD_pre (by omega)]; exact hm.2) i1 (by rw [List.length_append]; omega) i2 i3
    rw [i4] at this
    exact this
/-- where the directory behind some others is -/
def pos (large : Bool) : Nat → List (List Fld) → Nat
  | at_, [] => at_
  | at_, d :: l => pos large (at_ + szS d large + 2) l
theorem pos_snoc (large : Bool) (d : List Fld) : ∀ (at_ : Nat) (l : List (List Fld)), pos large at_ (l ++ [d]) = pos large at_ l + szS d large + 2
  | _, [] => rfl
  | at_, x :: l => by rw [List.cons_append, pos, pos_snoc large d _ l, pos]
def endsL (large : Bool) : Nat → List (List Fld) → List Int
  | _, [] => []
  | at_, d :: l => ((at_ + szS d large + 2 : Nat) : Int) :: endsL large (at_ + szS d large + 2) l
theorem ends_len (large : Bool) : ∀ (at_ : Nat) (l : List (List Fld)), (endsL large at_ l).length = l.length
  | _, [] => rfl
  | at_, d :: l => by rw [endsL, List.length_cons, ends_len large _ l, List.length_cons]
theorem ends_snoc (large : Bool) (d : List Fld) : ∀ (at_ : Nat) (l : List (List Fld)), endsL large at_ (l ++ [d]) = endsL large at_ l ++ [((pos large at_ l + szS d large + 2 : Nat) : Int)]
  | _, [] => rfl
  | at_, x :: l => by rw [List.cons_append, endsL, ends_snoc large d _ l, endsL, pos]; rfl
theorem ends_get (large : Bool) (d : List Fld) (B : List (List Fld)) : ∀ (at_ : Nat) (A : List (List Fld)), (endsL large at_ (A ++ d :: B)).getD A.length 0 = ((pos large at_ A + szS d large + 2 : Nat) : Int)
  | _, [] => rfl
  | at_, x :: A => by
    rw [List.cons_append, endsL, List.length_cons, pos]
    exact ends_get large d B _ A
theorem pos_le (large : Bool) : ∀ (at_ : Nat) (l : List (List Fld)), (∀ d ∈ l, szS d large ≤ 4000) → pos large at_ l ≤ at_ + l.length * 4002
  | _, [], _ => by simp [pos]
  | at_, d :: l, h => by
    have := pos_le large (at_ + szS d large + 2) l fun x hx => h x (by simp [hx])
    have := h d (by simp)
    rw [pos, List.length_cons, Nat.succ_mul]
    omega
def dD (d : List Fld) : D := .lst 3 (d.map fldD)
theorem dD_get {y0 A B : List (List Fld)} {d : List Fld} (h : y0 = A ++ d :: B) : (y0.map dD).getD A.length default = .lst 3 (d.map fldD) := by
  subst h
  simp [List.getD, dD]
theorem dDs_len (l : List (List Fld)) : (l.map dD).length = l.length := List.length_map ..
theorem drs_at {large : Bool} {last at_ : Nat} {l : List (List Fld)} {i : Nat} (h : i < l.length) : ∃ a n : Int, ((drs large last at_ l).map dirD).getD i default = .agg [.c (.int .u64 a), .c (.int .u64 n), .lst 3 ((l.getD i []).map fldD)] := by
  have hi : i < (drs large last at_ l).length := by rw [drs_length]; exact h
  have e := congrArg (fun x => x.getD i []) (drs_f large last at_ l)
  refine ⟨(dr (drs large last at_ l) i).1, (dr (drs large last at_ l) i).2.1, ?_⟩
  rw [dr_get hi, dirD]
  simp only [List.getD, List.getElem?_map, List.getElem?_eq_getElem hi, Option.map_some, Option.getD_some] at e
  rw [dr, List.getD, List.getElem?_eq_getElem hi, Option.getD_some, e]
  rfl
theorem ifdAgain_giv (y0 : List (List ((Int) × (Int) × (List Int)))) (h0 : (y0.length * 24 ≤ 140737488351232 ∧ ∀ e ∈ y0, (e.length * 40 ≤ 140737488351232 ∧ ∀ e1 ∈ e, ((0 ≤ e1.1 ∧ e1.1 ≤ 65535) ∧ (-9223372036854775808 ≤ e1.2.1 ∧ e1.2.1 ≤ 9223372036854775807) ∧ (e1.2.2.length * 8 ≤ 140737488351232 ∧ ∀ z ∈ e1.2.2, 0 ≤ z ∧ z ≤ 18446744073709551615))))) (y1 : Bool) (h1 : True) (y2 : Bool) (h2 : True) : Giv Try.prog 6 [.lst 1 (y0.map fun y => .lst 3 (y.map fun y => .agg [.c (.int .u16 y.1), .c (.int .i64 y.2.1), .lst 1 (li .u64 y.2.2)])), .c (.bool y1), .c (.bool y2)] (.d (.c (.bool true))) := by
  show Giv Try.prog 6 [.lst 1 (y0.map dD), .c (.bool y1), .c (.bool y2)] (retV [.c (.bool true)])
  have hlen := dDs_len y0
  refine Giv.of (out := [.c (.bool true)]) mixed c6 (Nat.le_of_ble_eq_true rfl) ?_
  by_cases hb0 : y0.length > 6
  · simp -dsimp -implicitDefEqProofs (disch := first | omega | (simp only [List.length_append, List.length_cons, List.length_nil, List.length_take, List.length_drop]; omega)) only [a6, ↓aPre, aPost, oneW, allOne, retV, retVA, simprocAttr]
    refine call_giv lives_giv ?_
    simp -dsimp -implicitDefEqProofs (disch := first | omega | (simp only [List.length_append, List.length_cons, List.length_nil, List.length_take, List.length_drop]; omega)) only [hlen, ↓aPre, aPost, oneW, allOne, retV, retVA, simprocAttr]
    refine call_giv lives_giv ?_
    simp -dsimp -implicitDefEqProofs (disch := first | omega | (simp only [List.length_append, List.length_cons, List.length_nil, List.length_take, List.length_drop]; omega)) only [↓aPre, aPost, oneW, allOne, retV, retVA, simprocAttr]
    exact post_eq rfl
  by_cases hb1 : y0.length = 0
  · simp -dsimp -implicitDefEqProofs (disch := first | omega | (simp only [List.length_append, List.length_cons, List.length_nil, List.length_take, List.length_drop]; omega)) only [a6, ↓aPre, aPost, oneW, allOne, retV, retVA, simprocAttr]
    refine call_giv lives_giv ?_
    simp -dsimp -implicitDefEqProofs (disch := first | omega | (simp only [List.length_append, List.length_cons, List.length_nil, List.length_take, List.length_drop]; omega)) only [hlen, hb1, ↓aPre, aPost, oneW, allOne, retV, retVA, simprocAttr]
    refine call_giv lives_giv ?_
    simp -dsimp -implicitDefEqProofs (disch := first | omega | (simp only [List.length_append, List.length_cons, List.length_nil, List.length_take, List.length_drop]; omega)) only [↓aPre, aPost, oneW, allOne, retV, retVA, simprocAttr]
    exact post_eq rfl
  have hne : ¬ (y0.length : Int) = 0 := by omega
  have hv : ∀ d ∈ y0, (d.length ≤ 140737488351232) ∧ ∀ f ∈ d, (0 ≤ f.1 ∧ f.1 < 65536) ∧ f.2.2.length ≤ 140737488351232 ∧ U64 f.2.2 := fun d hd => by
    have h3 := h0.2 d hd
    refine ⟨by omega, fun f hf => ?_⟩
    have h4 := h3.2 f hf
    exact ⟨by omega, by omega, fun z hz => by have := h4.2.2.2 z hz; omega⟩
  obtain ⟨first, hfi⟩ : ∃ first : Nat, first = (if y2 = true then 16 else 8) + 4 := ⟨_, rfl⟩
  have hfb : first = 20 ∨ first = 12 := by cases y2 <;> simp at hfi <;> omega
  have hsz := hsize_giv y2
  have i1 : (if y2 = true then (16 : Int) else 8) = ((first - 4 : Nat) : Int) := by cases y2 <;> simp at hfi ⊢ <;> omega
  obtain ⟨f4, hf4⟩ : ∃ f4, f4 = first - 4 := ⟨_, rfl⟩
  rw [← hf4] at i1
  rw [i1] at hsz
  have i2 : (f4 : Int) + 4 = (first : Int) := by omega
  simp -dsimp -implicitDefEqProofs (disch := first | omega | (simp only [List.length_append, List.length_cons, List.length_nil, List.length_take, List.length_drop]; omega)) only [a6, ↓aPre, aPost, oneW, allOne, retV, retVA, simprocAttr]
  refine call_giv lives_giv ?_
  simp -dsimp -implicitDefEqProofs (disch := first | omega | (simp only [List.length_append, List.length_cons, List.length_nil, List.length_take, List.length_drop]; omega)) only [hlen, hne, ↓aPre, aPost, oneW, allOne, retV, retVA, simprocAttr]
  refine call_giv hsz ?_
  simp -dsimp -implicitDefEqProofs (disch := first | omega | (simp only [List.length_append, List.length_cons, List.length_nil, List.length_take, List.length_drop]; omega)) only [i2, ↓aPre, aPost, oneW, allOne, retV, retVA, simprocAttr]
  refine loop_nil 9 100 1 (fun s => ∃ (A B : List (List Fld)) (p : Nat), y0 = A ++ B ∧ p = pos y2 first A ∧ (∀ d ∈ A, rtS d y2 = true ∧ vsum d ≤ 300) ∧ s.tm 0 = .d (.lst 1 (y0.map dD)) ∧ s.tm 1 = .d (.c (.bool y1)) ∧ s.tm 2 = .d (.c (.bool y2)) ∧ s.tm 7 = .ptr 7 0 ∧ s.hp 7 = some (.box [.d (.c (.bool y1)), .d (.c (.bool y2)), .d (.c (.int .u64 first))]) ∧ s.tm 8 = .d (.c (.int .u64 p)) ∧ s.tm 53 = .d (.lst 1 (y0.map dD)) ∧ s.tm 54 = .d (.c (.int .i64 y0.length)) ∧ s.tm 55 = .d (.c (.int .i64 A.length)) ∧ s.tm 9 = .sl 100 1 0 A.length ∧ s.hp 100 = some (.row 1 (li .u64 (endsL y2 first A)))) (fun s => y0.length - (avN (s.tm 55)).toNat) ?_ (by decide) ?_ ?_
  · simp -dsimp -implicitDefEqProofs (disch := first | omega | (simp only [List.length_append, List.length_cons, List.length_nil, List.length_take, List.length_drop]; omega)) only [↓aPre, aPost, oneW, allOne, retV, retVA, simprocAttr]
  · refine ⟨[], y0, first, rfl, rfl, (by intro d h; cases h), ?_⟩
    simp -dsimp -implicitDefEqProofs (disch := first | omega | (simp only [List.length_append, List.length_cons, List.length_nil, List.length_take, List.length_drop]; omega)) only [List.length_nil, Int.natCast_zero, endsL, ↓aPre, aPost, oneW, allOne, retV, retVA, simprocAttr]
  rintro s ⟨A, B, p, hAB, hp, hall, hs⟩
  have hll : y0.length = A.length + B.length := by rw [hAB, List.length_append]
  have hpb := pos_le y2 first A (fun d hd => szS_few (hall d hd).1 (hall d hd).2)
  have hel := ends_len y2 first A
  have hpb2 : A.length * 4002 ≤ 6 * 4002 := Nat.mul_le_mul_right _ (by omega)
  cases B with
  | cons d B =>
    rw [List.length_cons] at hll
    have hd := hv d (by rw [hAB]; simp)
    have hg := dD_get hAB
    have hfew := few_giv d hd.1 (fun f hf => (hd.2 f hf).2.1)
    obtain ⟨k, hk⟩ : ∃ k, k = A.length := ⟨_, rfl⟩
    rw [← hk] at hs hg hll hel
    by_cases hf : d.length ≤ 70 ∧ vsum d ≤ 300
    rotate_left
    · rw [decide_eq_false hf] at hfew
      simp -dsimp -implicitDefEqProofs (disch := first | omega | (simp only [List.length_append, List.length_cons, List.length_nil, List.length_take, List.length_drop]; omega)) only [hs, hlen, hg, ↓aPre, aPost, oneW, allOne, retV, retVA, simprocAttr]
      refine call_giv hfew ?_
      simp -dsimp -implicitDefEqProofs (disch := first | omega | (simp only [List.length_append, List.length_cons, List.length_nil, List.length_take, List.length_drop]; omega)) only [hs, ↓aPre, aPost, oneW, allOne, retV, retVA, simprocAttr]
      exact post_eq rfl
    rw [decide_eq_true hf] at hfew
    have hsize := size_giv d y2 hd.1 (fun f hf => (hd.2 f hf).2.1)
    by_cases hr : rtS d y2 = true
    rotate_left
    · rw [if_neg hr] at hsize
      simp -dsimp -implicitDefEqProofs (disch := first | omega | (simp only [List.length_append, List.length_cons, List.length_nil, List.length_take, List.length_drop]; omega)) only [hs, hlen, hg, ↓aPre, aPost, oneW, allOne, retV, retVA, simprocAttr]
      refine call_giv hfew ?_
      simp -dsimp -implicitDefEqProofs (disch := first | omega | (simp only [List.length_append, List.length_cons, List.length_nil, List.length_take, List.length_drop]; omega)) only [hs, ↓aPre, aPost, oneW, allOne, retV, retVA, simprocAttr]
      refine call_giv hsize ?_
      simp -dsimp -implicitDefEqProofs (disch := first | omega | (simp only [List.length_append, List.length_cons, List.length_nil, List.length_take, List.length_drop]; omega)) only [hs, ↓aPre, aPost, oneW, allOne, retV, retVA, simprocAttr]
      exact post_eq rfl
    rw [if_pos hr] at hsize
    have hsm := szS_few hr hf.2
    have hes := ends_snoc y2 d first A
    have hps := pos_snoc y2 d first A
    rw [← hp] at hes hps
    obtain ⟨z, hz⟩ : ∃ z, z = szS d y2 := ⟨_, rfl⟩
    rw [← hz] at hsize hsm hes hps
    obtain ⟨p2, hp2⟩ : ∃ p2, p2 = p + z + 2 := ⟨_, rfl⟩
    rw [← hp2] at hes hps
    have i3 : (p : Int) + ((z : Int) + 2) = (p2 : Int) := by omega
    have i4 : (k : Int) + 1 = ((A ++ [d]).length : Int) := by rw [List.length_append, List.length_cons, List.length_nil]; omega
    obtain ⟨k2, hk2⟩ : ∃ k2, k2 = (A ++ [d]).length := ⟨_, rfl⟩
    have hk3 : k2 = k + 1 := by rw [hk2, List.length_append, hk]; rfl
    rw [← hk2] at i4
    simp -dsimp -implicitDefEqProofs (disch := first | omega | (simp only [List.length_append, List.length_cons, List.length_nil, List.length_take, List.length_drop]; omega)) only [hs, hlen, hg, ↓aPre, aPost, oneW, allOne, retV, retVA, simprocAttr]
    refine call_giv hfew ?_
    simp -dsimp -implicitDefEqProofs (disch := first | omega | (simp only [List.length_append, List.length_cons, List.length_nil, List.length_take, List.length_drop]; omega)) only [hs, ↓aPre, aPost, oneW, allOne, retV, retVA, simprocAttr]
    refine call_giv hsize ?_
    simp -dsimp -implicitDefEqProofs (disch := first | omega | (simp only [List.length_append, List.length_cons, List.length_nil, List.length_take, List.length_drop]; omega)) only [hs, i3, hel, i4, ↓aPre, aPost, oneW, allOne, retV, retVA, simprocAttr]
    refine round_of ⟨A ++ [d], B, p2, by rw [hAB]; simp, hps.symm, ?_, ?_⟩ ?_
    · intro x hx
      rcases List.mem_append.1 hx with q | q
      · exact hall x q
      · simp only [List.mem_cons, List.not_mem_nil, or_false] at q
        subst q
        exact ⟨hr, hf.2⟩
    · rw [← hk2, hes, hk3]
      simp -dsimp -implicitDefEqProofs (disch := first | omega | (simp only [List.length_append, List.length_cons, List.length_nil, List.length_take, List.length_drop]; omega)) only [hs, ↓aPre, aPost, oneW, allOne, retV, retVA, simprocAttr]
    · simp -dsimp -implicitDefEqProofs (disch := first | omega | (simp only [List.length_append, List.length_cons, List.length_nil, List.length_take, List.length_drop]; omega)) only [hs, ↓aPre, aPost, oneW, allOne, retV, retVA, simprocAttr]
      omega
  | nil =>
    rw [List.append_nil] at hAB
    subst hAB
    clear hll hpb2
    have hDG : ∀ d ∈ y0, DG y2 d := fun d hd => ⟨(hall d hd).1, fun f hf => ⟨((hv d hd).2 f hf).1, ((hv d hd).2 f hf).2.2⟩⟩
    have hFR : ∀ d ∈ y0, ∀ f ∈ d, FR f := fun d hd f hf => ⟨((hv d hd).2 f hf).1, ((hv d hd).2 f hf).2.2, by have := vsum_mem hf; have := (hall d hd).2; omega⟩
    have hho := whead_o y1 y2 first (by omega) (.inr (by omega))
    have hhl := head_len y1 y2 first
    have hhl2 : (headL y1 y2 first).length = f4 := by rw [hhl]; cases y2 <;> simp at hfi ⊢ <;> omega
    rw [hhl2] at hho
    have hsum : ∀ (l : List (List Fld)), (∀ d ∈ l, szS d y2 ≤ 4000) → (l.map fun d => szS d y2 + 2).sum ≤ l.length * 4002 := by
      intro l
      induction l with
      | nil => intro _; simp
      | cons d l ih =>
        intro h
        have := ih fun x hx => h x (by simp [hx])
        have := h d (by simp)
        rw [List.map_cons, List.sum_cons, List.length_cons, Nat.succ_mul]
        omega
    have hs7 := hsum y0 fun d hd => szS_few (hall d hd).1 (hall d hd).2
    have hs8 : y0.length * 4002 ≤ 6 * 4002 := Nat.mul_le_mul_right _ (by omega)
    obtain ⟨E, hE⟩ : ∃ E, E = endsL y2 first y0 := ⟨_, rfl⟩
    rw [← hE] at hs hel
    clear hsz hlen
    have hlen := dDs_len y0
    simp -dsimp -implicitDefEqProofs (disch := first | omega | (simp only [List.length_append, List.length_cons, List.length_nil, List.length_take, List.length_drop]; omega)) only [hs, ↓aPre, aPost, oneW, allOne, retV, retVA, simprocAttr]
    refine loop_of (fun s => ∃ k : Nat, k ≤ 2 ∧ s.tm 82 = .d (.c (.int .i64 k)) ∧ s.tm 81 = .d (.c (.int .i64 2)) ∧ s.tm 80 = .d (.lst 1 [.c (.bool false), .c (.bool true)]) ∧ s.tm 1 = .d (.c (.bool y1)) ∧ s.tm 2 = .d (.c (.bool y2)) ∧ s.tm 0 = .d (.lst 1 (y0.map dD)) ∧ s.tm 7 = .ptr 7 0 ∧ s.hp 7 = some (.box [.d (.c (.bool y1)), .d (.c (.bool y2)), .d (.c (.int .u64 first))]) ∧ s.tm 9 = .sl 100 1 0 y0.length ∧ s.hp 100 = some (.row 1 (li .u64 E))) (fun s => 2 - (avN (s.tm 82)).toNat) ?_ ?_
    · refine ⟨0, Nat.zero_le _, ?_⟩
      simp -dsimp -implicitDefEqProofs (disch := first | omega | (simp only [List.length_append, List.length_cons, List.length_nil, List.length_take, List.length_drop]; omega)) only [hs, ↓aPre, aPost, oneW, allOne, retV, retVA, simprocAttr]
    clear hs hp hpb
    rintro s ⟨k, hk, hs⟩
    by_cases hk2 : k = 2
    · subst hk2
      simp -dsimp -implicitDefEqProofs (disch := first | omega | (simp only [List.length_append, List.length_cons, List.length_nil, List.length_take, List.length_drop]; omega)) only [hs, ↓aPre, aPost, oneW, allOne, retV, retVA, simprocAttr]
      exact post_eq rfl
    by_cases hk0 : k = 0
    ·
      subst hk0
      obtain ⟨M, hM⟩ : ∃ M, M = headL y1 y2 first ++ [1, 2, 3, 4] := ⟨_, rfl⟩
      have hbeq : (y1 == y1 && (y2 == y2 && ((first : Int) == (first : Int) && true))) = true := by simp
      have hMl : M.length = first := by rw [hM, List.length_append, hhl2]; simp; omega
      have hMB : Bytes M := by rw [hM]; exact (head_bytes y1 y2 first).app (fun z hz => by simp at hz; omega)
      obtain ⟨F, hF⟩ : ∃ F, F = M ++ lay y1 y2 0 first y0 := ⟨_, rfl⟩
      have hs0 := hs
      simp -dsimp -implicitDefEqProofs (disch := first | omega | (simp only [List.length_append, List.length_cons, List.length_nil, List.length_take, List.length_drop]; omega)) only [hs, ↓aPre, aPost, oneW, allOne, retV, retVA, simprocAttr]
      refine call_own hho ?_
      simp -dsimp -implicitDefEqProofs (disch := first | omega | (simp only [List.length_append, List.length_cons, List.length_nil, List.length_take, List.length_drop]; omega)) only [hs, hhl2, li_append, ↓aPre, aPost, oneW, allOne, retV, retVA, simprocAttr]
      refine loop_of (fun s => ∃ (A B : List (List Fld)) (p : Nat) (X : List Int), y0 = A ++ B ∧ p = pos y2 first A ∧ F = X ++ lay y1 y2 0 p B ∧ X.length = p ∧ (LayOk y1 y2 0 p B → LayOk y1 y2 0 first y0) ∧ s.tm 16 = .sl 88 1 0 p ∧ s.hp 88 = some (.row 1 (li .u8 X)) ∧ s.tm 8 = .d (.c (.int .u64 p)) ∧ s.tm 98 = .d (.lst 1 (y0.map dD)) ∧ s.tm 99 = .d (.c (.int .i64 y0.length)) ∧ s.tm 100 = .d (.c (.int .i64 A.length)) ∧ s.tm 15 = .d (.c (.bool false)) ∧ s.tm 82 = .d (.c (.int .i64 0)) ∧ s.tm 81 = .d (.c (.int .i64 2)) ∧ s.tm 80 = .d (.lst 1 [.c (.bool false), .c (.bool true)]) ∧ s.tm 1 = .d (.c (.bool y1)) ∧ s.tm 2 = .d (.c (.bool y2)) ∧ s.tm 0 = .d (.lst 1 (y0.map dD)) ∧ s.tm 7 = .ptr 7 0 ∧ s.hp 7 = some (.box [.d (.c (.bool y1)), .d (.c (.bool y2)), .d (.c (.int .u64 first))]) ∧ s.tm 9 = .sl 100 1 0 y0.length ∧ s.hp 100 = some (.row 1 (li .u64 E))) (fun s => y0.length - (avN (s.tm 100)).toNat) ?_ ?_
      · refine ⟨[], y0, first, M, rfl, rfl, hF, hMl, fun h => h, ?_⟩
        have e1 : f4 + 4 = first := by omega
        have e5 : li .u8 (headL y1 y2 first) ++ [.c (.int .u8 1), .c (.int .u8 2), .c (.int .u8 3), .c (.int .u8 4)] = li .u8 M := by rw [hM]; simp [li]
        simp -dsimp -implicitDefEqProofs (disch := first | omega | (simp only [List.length_append, List.length_cons, List.length_nil, List.length_take, List.length_drop]; omega)) only [hs, e5, List.length_nil, Int.natCast_zero, e1, li_append, ↓aPre, aPost, oneW, allOne, retV, retVA, simprocAttr]
      clear hs
      rintro s ⟨A, B, p, X, hAB, hp, hFX, hXl, hok, hs⟩
      have hll : y0.length = A.length + B.length := by rw [hAB, List.length_append]
      have hpb := pos_le y2 first A (fun d hd => szS_few (hall d (by rw [hAB]; simp [hd])).1 (hall d (by rw [hAB]; simp [hd])).2)
      have hpb2 : A.length * 4002 ≤ 6 * 4002 := Nat.mul_le_mul_right _ (by omega)
      cases B with
      | cons d B =>
        rw [List.length_cons] at hll
        have hg := dD_get hAB
        have heg : E.getD A.length 0 = ((pos y2 first A + szS d y2 + 2 : Nat) : Int) := by rw [hE, hAB]; exact ends_get y2 d B first A
        have hd := hall d (by rw [hAB]; simp)
        have hsm := szS_few hd.1 hd.2
        have hps := pos_snoc y2 d first A
        rw [← hp] at heg hps
        obtain ⟨NX, hNX⟩ : ∃ NX, NX = (if B = [] then 0 else p + szS d y2 + 2) := ⟨_, rfl⟩
        have hwd := write_giv d y1 y2 first p NX (hv d (by rw [hAB]; simp)).1 (hFR d (by rw [hAB]; simp)) (by omega) (by rw [hNX]; split <;> omega)
        rw [hD] at hwd
        have hwe := wd_err (big := y1) (at_ := p) (next := NX) hd.1 (by omega) (by rw [hNX]; split <;> omega)
        have hwl := wd_len (big := y1) (at_ := p) (next := NX) (l := d) (large := y2)
        have hlay : lay y1 y2 0 p (d :: B) = (wdS d y1 y2 p NX).1 ++ ([7, 7] ++ lay y1 y2 0 (p + szS d y2 + 2) B) := by rw [lay, hNX]
        have hlok : LayOk y1 y2 0 p (d :: B) ↔ (wdS d y1 y2 p NX).2 = 0 ∧ LayOk y1 y2 0 (p + szS d y2 + 2) B := by rw [LayOk, hNX]
        rw [hlay] at hFX
        rw [hlok] at hok
        obtain ⟨W, hW⟩ : ∃ W, W = wdS d y1 y2 p NX := ⟨_, rfl⟩
        rw [← hW] at hwd hwe hwl hFX hok
        obtain ⟨z, hz⟩ : ∃ z, z = szS d y2 := ⟨_, rfl⟩
        rw [← hz] at heg hsm hps hwl hFX hok hNX
        obtain ⟨p2, hp2⟩ : ∃ p2, p2 = p + z + 2 := ⟨_, rfl⟩
        rw [← hp2] at heg hps hFX hok hNX
        obtain ⟨W1, W2⟩ := W
        dsimp only at hwd hwe hwl hFX hok
        obtain ⟨q, hq⟩ : ∃ q, q = A.length := ⟨_, rfl⟩
        rw [← hq] at hs hg heg hll
        have i4 : (q : Int) + 1 = ((A ++ [d]).length : Int) := by rw [List.length_append, List.length_cons, List.length_nil]; omega
        obtain ⟨q2, hq2⟩ : ∃ q2, q2 = (A ++ [d]).length := ⟨_, rfl⟩
        rw [← hq2] at i4
        have hy1 : ∀ (e : Int), W2 = e → True := fun _ _ => trivial
        by_cases hB : B = []
        · have hlast : (y0.length : Int) - 1 = (q : Int) := by rw [hB, List.length_nil] at hll; omega
          rw [if_pos hB] at hNX
          have hNX := hNX.symm
          subst hNX
          rw [Int.natCast_zero] at hwd
          simp -dsimp -implicitDefEqProofs (disch := first | omega | (simp only [List.length_append, List.length_cons, List.length_nil, List.length_take, List.length_drop]; omega)) only [hs, hlen, hg, heg, hel, hlast, ↓aPre, aPost, oneW, allOne, retV, retVA, simprocAttr]
          refine call_giv hwd ?_
          rcases hwe with rfl | rfl
          · have hw1 := hwl rfl hd.1
            simp -dsimp -implicitDefEqProofs (disch := first | omega | (simp only [List.length_append, List.length_cons, List.length_nil, List.length_take, List.length_drop]; omega)) only [hs, hXl, hw1, heg, hel, hlast, ↓aPre, aPost, oneW, allOne, retV, retVA, simprocAttr]
            refine round_of ⟨A ++ [d], B, p2, X ++ W1 ++ [7, 7], by rw [hAB]; simp, hps.symm, by rw [hFX]; simp, by rw [List.length_append, List.length_append, hXl, hw1, hp2]; rfl, fun h => hok ⟨rfl, h⟩, ?_⟩ ?_
            · rw [← hq2]
              have e2 : p + z + 2 = p2 := hp2.symm
              simp -dsimp -implicitDefEqProofs (disch := first | omega | (simp only [List.length_append, List.length_cons, List.length_nil, List.length_take, List.length_drop]; omega)) only [hs, i4, li_append, e2, ↓aPre, aPost, oneW, allOne, retV, retVA, simprocAttr]
            · simp -dsimp -implicitDefEqProofs (disch := first | omega | (simp only [List.length_append, List.length_cons, List.length_nil, List.length_take, List.length_drop]; omega)) only [hs, ↓aPre, aPost, oneW, allOne, retV, retVA, simprocAttr]
              omega
          · simp -dsimp -implicitDefEqProofs (disch := first | omega | (simp only [List.length_append, List.length_cons, List.length_nil, List.length_take, List.length_drop]; omega)) only [hs, ↓aPre, aPost, oneW, allOne, retV, retVA, simprocAttr]
            exact post_eq rfl
        · have hBl : 0 < B.length := List.length_pos_iff.2 hB
          have hlast : ¬ (q : Int) = (y0.length : Int) - 1 := by omega
          rw [if_neg hB] at hNX
          have hNX := hNX.symm
          subst hNX
          simp -dsimp -implicitDefEqProofs (disch := first | omega | (simp only [List.length_append, List.length_cons, List.length_nil, List.length_take, List.length_drop]; omega)) only [hs, hlen, hg, heg, hel, hlast, ↓aPre, aPost, oneW, allOne, retV, retVA, simprocAttr]
          refine call_giv hwd ?_
          rcases hwe with rfl | rfl
          · have hw1 := hwl rfl hd.1
            simp -dsimp -implicitDefEqProofs (disch := first | omega | (simp only [List.length_append, List.length_cons, List.length_nil, List.length_take, List.length_drop]; omega)) only [hs, hXl, hw1, heg, hel, hlast, ↓aPre, aPost, oneW, allOne, retV, retVA, simprocAttr]
            refine round_of ⟨A ++ [d], B, p2, X ++ W1 ++ [7, 7], by rw [hAB]; simp, hps.symm, by rw [hFX]; simp, by rw [List.length_append, List.length_append, hXl, hw1, hp2]; rfl, fun h => hok ⟨rfl, h⟩, ?_⟩ ?_
            · rw [← hq2]
              have e2 : p + z + 2 = p2 := hp2.symm
              simp -dsimp -implicitDefEqProofs (disch := first | omega | (simp only [List.length_append, List.length_cons, List.length_nil, List.length_take, List.length_drop]; omega)) only [hs, i4, li_append, e2, ↓aPre, aPost, oneW, allOne, retV, retVA, simprocAttr]
            · simp -dsimp -implicitDefEqProofs (disch := first | omega | (simp only [List.length_append, List.length_cons, List.length_nil, List.length_take, List.length_drop]; omega)) only [hs, ↓aPre, aPost, oneW, allOne, retV, retVA, simprocAttr]
              omega
          · simp -dsimp -implicitDefEqProofs (disch := first | omega | (simp only [List.length_append, List.length_cons, List.length_nil, List.length_take, List.length_drop]; omega)) only [hs, ↓aPre, aPost, oneW, allOne, retV, retVA, simprocAttr]
            exact post_eq rfl
      | nil =>
        rw [List.append_nil] at hAB
        subst hAB
        rw [lay, List.append_nil] at hFX
        subst hFX
        have hLok := hok trivial
        have hFl : F.length ≤ 90000 := by omega
        have hFB : Bytes F := by rw [hF]; exact hMB.app (lay_bytes _ _ _ _ _)
        have hne2 : y0 ≠ [] := fun c => hb1 (by rw [c]; rfl)
        have g8 : Giv Try.prog 8 [.lst 1 (li .u8 F)] (retV [hD y1 y2 first, .c (.int .i64 0)]) := by
          have hy := again_x y1 y2 first ([1, 2, 3, 4] ++ lay y1 y2 0 first y0) (Bytes.app (fun z hz => by simp at hz; omega) (lay_bytes _ _ _ _ _)) (by
            have h3 := congrArg List.length hF
            rw [hM] at h3
            simp only [List.length_append] at h3 ⊢
            omega) (by omega) (.inr (by omega))
          rw [hF, hM, List.append_assoc]
          exact hy
        rw [hD] at g8
        have g20 := chain_giv F y1 y2 first y0.length (by omega) hFB (by omega)
        have hF2 : y0.length ≤ F.length := by
          have := lay_len first y0 hLok hDG
          have h3 := congrArg List.length hF
          rw [List.length_append, this] at h3
          have : ∀ l : List (List Fld), l.length ≤ (l.map fun d => szS d y2 + 2).sum := by
            intro l
            induction l with
            | nil => simp
            | cons d l ih => rw [List.map_cons, List.sum_cons, List.length_cons]; omega
          have := this y0
          omega
        have hfuel : y0.length + (F.length + 2 - y0.length) = F.length + 2 := by omega
        obtain ⟨K, hK⟩ : ∃ K, K = F.length + 2 - y0.length := ⟨_, rfl⟩
        have hK1 : 1 ≤ K := by omega
        obtain ⟨K', hK'⟩ : ∃ K', K = K' + 1 := ⟨K - 1, by omega⟩
        rw [← hK] at hfuel
        have hch := chn_lay (big := y1) (large := y2) (last := 0) (most := (y0.length : Int)) y0 M first [] K hMl (by omega) hne2 hLok hDG (fun d h => by cases h) (by simp)
        rw [← hF, hfuel, List.nil_append, hK'] at hch
        rw [hch] at g20
        have hFl2 : (li .u8 F).length = p := by rw [li_length, hXl]
        have e0 : chn F y1 y2 (y0.length : Int) (K' + 1) 0 (drs y2 0 first y0) = (drs y2 0 first y0, 0) := by rw [chn, if_pos rfl]
        rw [e0] at g20
        dsimp only at g20
        have hdl : ((drs y2 0 first y0).map dirD).length = y0.length := by rw [List.length_map, drs_length]
        have hfw := chn_few (big := y1) (large := y2) (last := 0) y0 M first [] K hMl (by omega) hne2 hLok hDG (fun d h => by cases h)
        rw [← hF, hfuel, List.length_nil, Nat.zero_add] at hfw
        have g21 := chain_giv F y1 y2 first ((y0.length : Int) - 1) (by omega) hFB (by omega)
        rw [hfw] at g21
        dsimp only at g21
        rw [hD] at g20 g21
        simp -dsimp -implicitDefEqProofs (disch := first | omega | (simp only [List.length_append, List.length_cons, List.length_nil, List.length_take, List.length_drop]; omega)) only [hs, hFl2, hXl, ↓aPre, aPost, oneW, allOne, retV, retVA, simprocAttr]
        refine call_giv g8 ?_
        simp -dsimp -implicitDefEqProofs (disch := first | omega | (simp only [List.length_append, List.length_cons, List.length_nil, List.length_take, List.length_drop]; omega)) only [hs, hFl2, hXl, hlen, ↓aPre, aPost, oneW, allOne, retV, retVA, simprocAttr]
        refine call_giv g20 ?_
        simp -dsimp -implicitDefEqProofs (disch := first | omega | (simp only [List.length_append, List.length_cons, List.length_nil, List.length_take, List.length_drop]; omega)) only [hs, hdl, hlen, beq_self_eq_true, Bool.and_true, Bool.true_and, ↓aPre, aPost, oneW, allOne, retV, retVA, simprocAttr]
        refine loop_of (fun s => ∃ i, i ≤ y0.length ∧ s.tm 178 = .d (.c (.int .i64 i)) ∧ s.tm 177 = .d (.c (.int .i64 y0.length)) ∧ s.tm 176 = .d (.lst 1 (y0.map dD)) ∧ s.tm 25 = .d (.lst 3 ((drs y2 0 first y0).map dirD)) ∧ s.tm 16 = .sl 88 1 0 p ∧ s.hp 88 = some (.ice 1 (li .u8 F)) ∧ s.tm 23 = .ptr 23 0 ∧ s.hp 23 = some (.box [.d (.c (.bool y1)), .d (.c (.bool y2)), .d (.c (.int .u64 first))]) ∧ s.tm 82 = .d (.c (.int .i64 0)) ∧ s.tm 81 = .d (.c (.int .i64 2)) ∧ s.tm 80 = .d (.lst 1 [.c (.bool false), .c (.bool true)]) ∧ s.tm 1 = .d (.c (.bool y1)) ∧ s.tm 2 = .d (.c (.bool y2)) ∧ s.tm 0 = .d (.lst 1 (y0.map dD)) ∧ s.tm 7 = .ptr 7 0 ∧ s.hp 7 = some (.box [.d (.c (.bool y1)), .d (.c (.bool y2)), .d (.c (.int .u64 first))]) ∧ s.tm 9 = .sl 100 1 0 y0.length ∧ s.hp 100 = some (.row 1 (li .u64 E))) (fun s => y0.length - (avN (s.tm 178)).toNat) ?_ ?_
        · refine ⟨0, Nat.zero_le _, ?_⟩
          simp -dsimp -implicitDefEqProofs (disch := first | omega | (simp only [List.length_append, List.length_cons, List.length_nil, List.length_take, List.length_drop]; omega)) only [hs, ↓aPre, aPost, oneW, allOne, retV, retVA, simprocAttr]
        clear hs
        rintro s ⟨i, hi, hs⟩
        by_cases hlt : i < y0.length
        · obtain ⟨a, nn, hda⟩ := drs_at (large := y2) (last := 0) (at_ := first) hlt
          have hda2 : (y0.map dD).getD i default = .lst 3 ((y0.getD i []).map fldD) := by
            simp only [List.getD, List.getElem?_map, List.getElem?_eq_getElem hlt, Option.map_some, Option.getD_some, dD]
          have hdm : y0.getD i [] ∈ y0 := by
            simp only [List.getD, List.getElem?_eq_getElem hlt, Option.getD_some]
            exact List.getElem_mem hlt
          have hsame := fsame_giv (y0.getD i []) (by have := (of_decide_eq_true (hall _ hdm).1).1; omega) (fun f hf => by have := (hFR _ hdm f hf).n; omega)
          obtain ⟨dd, hdd⟩ : ∃ dd, dd = (y0.getD i []).map fldD := ⟨_, rfl⟩
          rw [← hdd] at hda hda2 hsame
          simp -dsimp -implicitDefEqProofs (disch := first | omega | (simp only [List.length_append, List.length_cons, List.length_nil, List.length_take, List.length_drop]; omega)) only [hs, hlen, hdl, hda, hda2, ↓aPre, aPost, oneW, allOne, retV, retVA, simprocAttr]
          refine call_giv hsame ?_
          simp -dsimp -implicitDefEqProofs (disch := first | omega | (simp only [List.length_append, List.length_cons, List.length_nil, List.length_take, List.length_drop]; omega)) only [hs, ↓aPre, aPost, oneW, allOne, retV, retVA, simprocAttr]
          refine round_of ⟨i + 1, by omega, ?_⟩ ?_
          · simp -dsimp -implicitDefEqProofs (disch := first | omega | (simp only [List.length_append, List.length_cons, List.length_nil, List.length_take, List.length_drop]; omega)) only [hs, ↓aPre, aPost, oneW, allOne, retV, retVA, simprocAttr]
          · simp -dsimp -implicitDefEqProofs (disch := first | omega | (simp only [List.length_append, List.length_cons, List.length_nil, List.length_take, List.length_drop]; omega)) only [hs, ↓aPre, aPost, oneW, allOne, retV, retVA, simprocAttr]
            omega
        · simp -dsimp -implicitDefEqProofs (disch := first | omega | (simp only [List.length_append, List.length_cons, List.length_nil, List.length_take, List.length_drop]; omega)) only [hs, hFl2, hXl, hlen, ↓aPre, aPost, oneW, allOne, retV, retVA, simprocAttr]
          refine call_giv g21 ?_
          simp -dsimp -implicitDefEqProofs (disch := first | omega | (simp only [List.length_append, List.length_cons, List.length_nil, List.length_take, List.length_drop]; omega)) only [hs, ↓aPre, aPost, oneW, allOne, retV, retVA, simprocAttr]
          refine round_of ⟨1, by omega, ?_⟩ ?_
          · simp -dsimp -implicitDefEqProofs (disch := first | omega | (simp only [List.length_append, List.length_cons, List.length_nil, List.length_take, List.length_drop]; omega)) only [hs, ↓aPre, aPost, oneW, allOne, retV, retVA, simprocAttr]
          · simp -dsimp -implicitDefEqProofs (disch := first | omega | (simp only [List.length_append, List.length_cons, List.length_nil, List.length_take, List.length_drop]; omega)) only [hs, hs0, ↓aPre, aPost, oneW, allOne, retV, retVA, simprocAttr]
    · have hk1 : k = 1 := by omega
      subst hk1
      obtain ⟨M, hM⟩ : ∃ M, M = headL y1 y2 first ++ [1, 2, 3, 4] := ⟨_, rfl⟩
      have hbeq : (y1 == y1 && (y2 == y2 && ((first : Int) == (first : Int) && true))) = true := by simp
      have hMl : M.length = first := by rw [hM, List.length_append, hhl2]; simp; omega
      have hMB : Bytes M := by rw [hM]; exact (head_bytes y1 y2 first).app (fun z hz => by simp at hz; omega)
      obtain ⟨F, hF⟩ : ∃ F, F = M ++ lay y1 y2 first first y0 := ⟨_, rfl⟩
      have hs0 := hs
      simp -dsimp -implicitDefEqProofs (disch := first | omega | (simp only [List.length_append, List.length_cons, List.length_nil, List.length_take, List.length_drop]; omega)) only [hs, ↓aPre, aPost, oneW, allOne, retV, retVA, simprocAttr]
      refine call_own hho ?_
      simp -dsimp -implicitDefEqProofs (disch := first | omega | (simp only [List.length_append, List.length_cons, List.length_nil, List.length_take, List.length_drop]; omega)) only [hs, hhl2, li_append, ↓aPre, aPost, oneW, allOne, retV, retVA, simprocAttr]
      refine loop_of (fun s => ∃ (A B : List (List Fld)) (p : Nat) (X : List Int), y0 = A ++ B ∧ p = pos y2 first A ∧ F = X ++ lay y1 y2 first p B ∧ X.length = p ∧ (LayOk y1 y2 first p B → LayOk y1 y2 first first y0) ∧ s.tm 16 = .sl 88 1 0 p ∧ s.hp 88 = some (.row 1 (li .u8 X)) ∧ s.tm 8 = .d (.c (.int .u64 p)) ∧ s.tm 98 = .d (.lst 1 (y0.map dD)) ∧ s.tm 99 = .d (.c (.int .i64 y0.length)) ∧ s.tm 100 = .d (.c (.int .i64 A.length)) ∧ s.tm 15 = .d (.c (.bool true)) ∧ s.tm 82 = .d (.c (.int .i64 1)) ∧ s.tm 81 = .d (.c (.int .i64 2)) ∧ s.tm 80 = .d (.lst 1 [.c (.bool false), .c (.bool true)]) ∧ s.tm 1 = .d (.c (.bool y1)) ∧ s.tm 2 = .d (.c (.bool y2)) ∧ s.tm 0 = .d (.lst 1 (y0.map dD)) ∧ s.tm 7 = .ptr 7 0 ∧ s.hp 7 = some (.box [.d (.c (.bool y1)), .d (.c (.bool y2)), .d (.c (.int .u64 first))]) ∧ s.tm 9 = .sl 100 1 0 y0.length ∧ s.hp 100 = some (.row 1 (li .u64 E))) (fun s => y0.length - (avN (s.tm 100)).toNat) ?_ ?_
      · refine ⟨[], y0, first, M, rfl, rfl, hF, hMl, fun h => h, ?_⟩
        have e1 : f4 + 4 = first := by omega
        have e5 : li .u8 (headL y1 y2 first) ++ [.c (.int .u8 1), .c (.int .u8 2), .c (.int .u8 3), .c (.int .u8 4)] = li .u8 M := by rw [hM]; simp [li]
        simp -dsimp -implicitDefEqProofs (disch := first | omega | (simp only [List.length_append, List.length_cons, List.length_nil, List.length_take, List.length_drop]; omega)) only [hs, e5, List.length_nil, Int.natCast_zero, e1, li_append, ↓aPre, aPost, oneW, allOne, retV, retVA, simprocAttr]
      clear hs
      rintro s ⟨A, B, p, X, hAB, hp, hFX, hXl, hok, hs⟩
      have hll : y0.length = A.length + B.length := by rw [hAB, List.length_append]
      have hpb := pos_le y2 first A (fun d hd => szS_few (hall d (by rw [hAB]; simp [hd])).1 (hall d (by rw [hAB]; simp [hd])).2)
      have hpb2 : A.length * 4002 ≤ 6 * 4002 := Nat.mul_le_mul_right _ (by omega)
      cases B with
      | cons d B =>
        rw [List.length_cons] at hll
        have hg := dD_get hAB
        have heg : E.getD A.length 0 = ((pos y2 first A + szS d y2 + 2 : Nat) : Int) := by rw [hE, hAB]; exact ends_get y2 d B first A
        have hd := hall d (by rw [hAB]; simp)
        have hsm := szS_few hd.1 hd.2
        have hps := pos_snoc y2 d first A
        rw [← hp] at heg hps
        obtain ⟨NX, hNX⟩ : ∃ NX, NX = (if B = [] then first else p + szS d y2 + 2) := ⟨_, rfl⟩
        have hwd := write_giv d y1 y2 first p NX (hv d (by rw [hAB]; simp)).1 (hFR d (by rw [hAB]; simp)) (by omega) (by rw [hNX]; split <;> omega)
        rw [hD] at hwd
        have hwe := wd_err (big := y1) (at_ := p) (next := NX) hd.1 (by omega) (by rw [hNX]; split <;> omega)
        have hwl := wd_len (big := y1) (at_ := p) (next := NX) (l := d) (large := y2)
        have hlay : lay y1 y2 first p (d :: B) = (wdS d y1 y2 p NX).1 ++ ([7, 7] ++ lay y1 y2 first (p + szS d y2 + 2) B) := by rw [lay, hNX]
        have hlok : LayOk y1 y2 first p (d :: B) ↔ (wdS d y1 y2 p NX).2 = 0 ∧ LayOk y1 y2 first (p + szS d y2 + 2) B := by rw [LayOk, hNX]
        rw [hlay] at hFX
        rw [hlok] at hok
        obtain ⟨W, hW⟩ : ∃ W, W = wdS d y1 y2 p NX := ⟨_, rfl⟩
        rw [← hW] at hwd hwe hwl hFX hok
        obtain ⟨z, hz⟩ : ∃ z, z = szS d y2 := ⟨_, rfl⟩
        rw [← hz] at heg hsm hps hwl hFX hok hNX
        obtain ⟨p2, hp2⟩ : ∃ p2, p2 = p + z + 2 := ⟨_, rfl⟩
        rw [← hp2] at heg hps hFX hok hNX
        obtain ⟨W1, W2⟩ := W
        dsimp only at hwd hwe hwl hFX hok
        obtain ⟨q, hq⟩ : ∃ q, q = A.length := ⟨_, rfl⟩
        rw [← hq] at hs hg heg hll
        have i4 : (q : Int) + 1 = ((A ++ [d]).length : Int) := by rw [List.length_append, List.length_cons, List.length_nil]; omega
        obtain ⟨q2, hq2⟩ : ∃ q2, q2 = (A ++ [d]).length := ⟨_, rfl⟩
        rw [← hq2] at i4
        have hy1 : ∀ (e : Int), W2 = e → True := fun _ _ => trivial
        by_cases hB : B = []
        · have hlast : (y0.length : Int) - 1 = (q : Int) := by rw [hB, List.length_nil] at hll; omega
          rw [if_pos hB] at hNX
          have hNX := hNX.symm
          subst hNX
          skip
          simp -dsimp -implicitDefEqProofs (disch := first | omega | (simp only [List.length_append, List.length_cons, List.length_nil, List.length_take, List.length_drop]; omega)) only [hs, hlen, hg, heg, hel, hlast, ↓aPre, aPost, oneW, allOne, retV, retVA, simprocAttr]
          refine call_giv hwd ?_
          rcases hwe with rfl | rfl
          · have hw1 := hwl rfl hd.1
            simp -dsimp -implicitDefEqProofs (disch := first | omega | (simp only [List.length_append, List.length_cons, List.length_nil, List.length_take, List.length_drop]; omega)) only [hs, hXl, hw1, heg, hel, hlast, ↓aPre, aPost, oneW, allOne, retV, retVA, simprocAttr]
            refine round_of ⟨A ++ [d], B, p2, X ++ W1 ++ [7, 7], by rw [hAB]; simp, hps.symm, by rw [hFX]; simp, by rw [List.length_append, List.length_append, hXl, hw1, hp2]; rfl, fun h => hok ⟨rfl, h⟩, ?_⟩ ?_
            · rw [← hq2]
              have e2 : p + z + 2 = p2 := hp2.symm
              simp -dsimp -implicitDefEqProofs (disch := first | omega | (simp only [List.length_append, List.length_cons, List.length_nil, List.length_take, List.length_drop]; omega)) only [hs, i4, li_append, e2, ↓aPre, aPost, oneW, allOne, retV, retVA, simprocAttr]
            · simp -dsimp -implicitDefEqProofs (disch := first | omega | (simp only [List.length_append, List.length_cons, List.length_nil, List.length_take, List.length_drop]; omega)) only [hs, ↓aPre, aPost, oneW, allOne, retV, retVA, simprocAttr]
              omega
          · simp -dsimp -implicitDefEqProofs (disch := first | omega | (simp only [List.length_append, List.length_cons, List.length_nil, List.length_take, List.length_drop]; omega)) only [hs, ↓aPre, aPost, oneW, allOne, retV, retVA, simprocAttr]
            exact post_eq rfl
        · have hBl : 0 < B.length := List.length_pos_iff.2 hB
          have hlast : ¬ (q : Int) = (y0.length : Int) - 1 := by omega
          rw [if_neg hB] at hNX
          have hNX := hNX.symm
          subst hNX
          simp -dsimp -implicitDefEqProofs (disch := first | omega | (simp only [List.length_append, List.length_cons, List.length_nil, List.length_take, List.length_drop]; omega)) only [hs, hlen, hg, heg, hel, hlast, ↓aPre, aPost, oneW, allOne, retV, retVA, simprocAttr]
          refine call_giv hwd ?_
          rcases hwe with rfl | rfl
          · have hw1 := hwl rfl hd.1
            simp -dsimp -implicitDefEqProofs (disch := first | omega | (simp only [List.length_append, List.length_cons, List.length_nil, List.length_take, List.length_drop]; omega)) only [hs, hXl, hw1, heg, hel, hlast, ↓aPre, aPost, oneW, allOne, retV, retVA, simprocAttr]
            refine round_of ⟨A ++ [d], B, p2, X ++ W1 ++ [7, 7], by rw [hAB]; simp, hps.symm, by rw [hFX]; simp, by rw [List.length_append, List.length_append, hXl, hw1, hp2]; rfl, fun h => hok ⟨rfl, h⟩, ?_⟩ ?_
            · rw [← hq2]
              have e2 : p + z + 2 = p2 := hp2.symm
              simp -dsimp -implicitDefEqProofs (disch := first | omega | (simp only [List.length_append, List.length_cons, List.length_nil, List.length_take, List.length_drop]; omega)) only [hs, i4, li_append, e2, ↓aPre, aPost, oneW, allOne, retV, retVA, simprocAttr]
            · simp -dsimp -implicitDefEqProofs (disch := first | omega | (simp only [List.length_append, List.length_cons, List.length_nil, List.length_take, List.length_drop]; omega)) only [hs, ↓aPre, aPost, oneW, allOne, retV, retVA, simprocAttr]
              omega
          · simp -dsimp -implicitDefEqProofs (disch := first | omega | (simp only [List.length_append, List.length_cons, List.length_nil, List.length_take, List.length_drop]; omega)) only [hs, ↓aPre, aPost, oneW, allOne, retV, retVA, simprocAttr]
            exact post_eq rfl
      | nil =>
        rw [List.append_nil] at hAB
        subst hAB
        rw [lay, List.append_nil] at hFX
        subst hFX
        have hLok := hok trivial
        have hFl : F.length ≤ 90000 := by omega
        have hFB : Bytes F := by rw [hF]; exact hMB.app (lay_bytes _ _ _ _ _)
        have hne2 : y0 ≠ [] := fun c => hb1 (by rw [c]; rfl)
        have g8 : Giv Try.prog 8 [.lst 1 (li .u8 F)] (retV [hD y1 y2 first, .c (.int .i64 0)]) := by
          have hy := again_x y1 y2 first ([1, 2, 3, 4] ++ lay y1 y2 first first y0) (Bytes.app (fun z hz => by simp at hz; omega) (lay_bytes _ _ _ _ _)) (by
            have h3 := congrArg List.length hF
            rw [hM] at h3
            simp only [List.length_append] at h3 ⊢
            omega) (by omega) (.inr (by omega))
          rw [hF, hM, List.append_assoc]
          exact hy
        rw [hD] at g8
        have g20 := chain_giv F y1 y2 first y0.length (by omega) hFB (by omega)
        have hF2 : y0.length ≤ F.length := by
          have := lay_len first y0 hLok hDG
          have h3 := congrArg List.length hF
          rw [List.length_append, this] at h3
          have : ∀ l : List (List Fld), l.length ≤ (l.map fun d => szS d y2 + 2).sum := by
            intro l
            induction l with
            | nil => simp
            | cons d l ih => rw [List.map_cons, List.sum_cons, List.length_cons]; omega
          have := this y0
          omega
        have hfuel : y0.length + (F.length + 2 - y0.length) = F.length + 2 := by omega
        obtain ⟨K, hK⟩ : ∃ K, K = F.length + 2 - y0.length := ⟨_, rfl⟩
        have hK1 : 1 ≤ K := by omega
        obtain ⟨K', hK'⟩ : ∃ K', K = K' + 1 := ⟨K - 1, by omega⟩
        rw [← hK] at hfuel
        have hch := chn_lay (big := y1) (large := y2) (last := first) (most := (y0.length : Int)) y0 M first [] K hMl (by omega) hne2 hLok hDG (fun d h => by cases h) (by simp)
        rw [← hF, hfuel, List.nil_append, hK'] at hch
        rw [hch] at g20
        have hFl2 : (li .u8 F).length = p := by rw [li_length, hXl]
        have e0 : chn F y1 y2 (y0.length : Int) (K' + 1) first (drs y2 first first y0) = ([], 13) := by
          have hx : ∀ (l : List (List Fld)), l ≠ [] → ∃ d ∈ drs y2 first first l, d.1 = (first : Int) := fun l hl => by
            cases l with
            | nil => exact absurd rfl hl
            | cons d l => exact ⟨_, by rw [drs]; exact List.mem_cons_self .., rfl⟩
          rw [chn, if_neg (by omega), if_pos (ixD_ge _ 0 (hx y0 hne2))]
        rw [e0] at g20
        dsimp only at g20
        rw [hD] at g20
        simp -dsimp -implicitDefEqProofs (disch := first | omega | (simp only [List.length_append, List.length_cons, List.length_nil, List.length_take, List.length_drop]; omega)) only [hs, hFl2, hXl, ↓aPre, aPost, oneW, allOne, retV, retVA, simprocAttr]
        refine call_giv g8 ?_
        simp -dsimp -implicitDefEqProofs (disch := first | omega | (simp only [List.length_append, List.length_cons, List.length_nil, List.length_take, List.length_drop]; omega)) only [hs, hFl2, hXl, hlen, ↓aPre, aPost, oneW, allOne, retV, retVA, simprocAttr]
        refine call_giv g20 ?_
        simp -dsimp -implicitDefEqProofs (disch := first | omega | (simp only [List.length_append, List.length_cons, List.length_nil, List.length_take, List.length_drop]; omega)) only [hs, beq_self_eq_true, Bool.and_true, Bool.true_and, ↓aPre, aPost, oneW, allOne, retV, retVA, simprocAttr]
        refine round_of ⟨2, by omega, ?_⟩ ?_
        · simp -dsimp -implicitDefEqProofs (disch := first | omega | (simp only [List.length_append, List.length_cons, List.length_nil, List.length_take, List.length_drop]; omega)) only [hs, ↓aPre, aPost, oneW, allOne, retV, retVA, simprocAttr]
        · simp -dsimp -implicitDefEqProofs (disch := first | omega | (simp only [List.length_append, List.length_cons, List.length_nil, List.length_take, List.length_drop]; omega)) only [hs, hs0, ↓aPre, aPost, oneW, allOne, retV, retVA, simprocAttr]
end Go.Proofs.Ytkdkhngdilhneaa
