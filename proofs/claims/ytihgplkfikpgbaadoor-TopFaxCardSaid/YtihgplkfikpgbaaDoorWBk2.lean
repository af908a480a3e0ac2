/- A word of a book, written and read. No condition but what each says. A word of the book of modes, written and read. No condition but what each says. -/
import Derived.Test.YtihgplkfikpgbaaDoorWNew
set_option linter.unusedSimpArgs false
set_option linter.unusedVariables false
set_option maxRecDepth 8000
set_option maxHeartbeats 4000000
namespace Go.Proofs.YtihgplkfikpgbaaDoor
open Go.Eng Go.RowKit
def a67 : AFn := ⟨10, (.seq (.ops [⟨(.some 2), (.mov (.const (.int .i64 0))), .none⟩]) (.seq (.seq (.ops [⟨(.some 3), (.mov (.tmp 0)), .none⟩, ⟨(.some 4), (.isNilP false (.tmp 3)), .none⟩]) (.cond (.tmp 4) (.seq (.ops [⟨(.some 2), (.mov (.const (.int .i64 0))), .none⟩]) .ret) .skip)) (.seq (.ops [⟨(.some 5), (.mov (.tmp 0)), .none⟩, ⟨(.some 6), (.nilC (.tmp 5)), .none⟩, ⟨(.some 7), (.fadr 2 (.tmp 6)), .none⟩, ⟨(.some 8), (.ld (.tmp 7)), .none⟩, ⟨(.some 9), (.len (.tmp 8)), .none⟩, ⟨(.some 2), (.mov (.tmp 9)), .none⟩]) .ret))), [(2, .none)]⟩
theorem c67 : cmpF Tryd.prog [] [] 67 = some a67 := by kernel_rfl
def a68 : AFn := ⟨10, (.seq (.ops [⟨(.some 2), (.mov (.const (.int .i64 0))), .none⟩]) (.seq (.seq (.ops [⟨(.some 3), (.mov (.tmp 0)), .none⟩, ⟨(.some 4), (.isNilP false (.tmp 3)), .none⟩]) (.cond (.tmp 4) (.seq (.ops [⟨(.some 2), (.mov (.const (.int .i64 0))), .none⟩]) .ret) .skip)) (.seq (.ops [⟨(.some 5), (.mov (.tmp 0)), .none⟩, ⟨(.some 6), (.nilC (.tmp 5)), .none⟩, ⟨(.some 7), (.fadr 2 (.tmp 6)), .none⟩, ⟨(.some 8), (.ld (.tmp 7)), .none⟩, ⟨(.some 9), (.len (.tmp 8)), .none⟩, ⟨(.some 2), (.mov (.tmp 9)), .none⟩]) .ret))), [(2, .none)]⟩
theorem c68 : cmpF Tryd.prog [] [] 68 = some a68 := by kernel_rfl
def a64 : AFn := ⟨21, (.seq (.ops [⟨(.some 4), (.mov (.const (.string (strOfNums [])))), .none⟩, ⟨(.some 5), (.mov (.const (.int .i64 0))), .none⟩]) (.seq (.seq (.ops [⟨(.some 6), (.mov (.tmp 1)), .none⟩, ⟨(.some 7), (.bin .lss (.tmp 6) (.const (.int .i64 0))), .none⟩, ⟨(.some 8), (.mov (.tmp 7)), .none⟩, ⟨(.some 9), (.mov (.tmp 1)), (.some (8, false))⟩, ⟨(.some 10), (.mov (.tmp 0)), (.some (8, false))⟩, ⟨(.some 11), (.call 11 67 [(.tmp 10)]), (.some (8, false))⟩, ⟨(.some 12), (.bin .geq (.tmp 9) (.tmp 11)), (.some (8, false))⟩, ⟨(.some 13), (.pick (.tmp 8) (.const (.bool true)) (.tmp 12)), .none⟩]) (.cond (.tmp 13) (.seq (.ops [⟨(.some 4), (.mov (.const (.string (strOfNums [])))), .none⟩, ⟨(.some 5), (.mov (.const (.int .i64 12))), .none⟩]) .ret) .skip)) (.seq (.ops [⟨(.some 14), (.mov (.tmp 0)), .none⟩, ⟨(.some 15), (.nilC (.tmp 14)), .none⟩, ⟨(.some 16), (.fadr 2 (.tmp 15)), .none⟩, ⟨(.some 17), (.ld (.tmp 16)), .none⟩, ⟨(.some 18), (.mov (.tmp 1)), .none⟩, ⟨(.some 19), (.iadr 1 (.tmp 17) (.tmp 18)), .none⟩, ⟨(.some 20), (.ld (.tmp 19)), .none⟩, ⟨(.some 4), (.mov (.tmp 20)), .none⟩, ⟨(.some 5), (.mov (.const (.int .i64 0))), .none⟩]) .ret))), [(4, .none), (5, .none)]⟩
theorem c64 : cmpF Tryd.prog [] [] 64 = some a64 := by kernel_rfl
def a65 : AFn := ⟨21, (.seq (.ops [⟨(.some 4), (.mov (.const (.string (strOfNums [])))), .none⟩, ⟨(.some 5), (.mov (.const (.int .i64 0))), .none⟩]) (.seq (.seq (.ops [⟨(.some 6), (.mov (.tmp 1)), .none⟩, ⟨(.some 7), (.bin .lss (.tmp 6) (.const (.int .i64 0))), .none⟩, ⟨(.some 8), (.mov (.tmp 7)), .none⟩, ⟨(.some 9), (.mov (.tmp 1)), (.some (8, false))⟩, ⟨(.some 10), (.mov (.tmp 0)), (.some (8, false))⟩, ⟨(.some 11), (.call 11 68 [(.tmp 10)]), (.some (8, false))⟩, ⟨(.some 12), (.bin .geq (.tmp 9) (.tmp 11)), (.some (8, false))⟩, ⟨(.some 13), (.pick (.tmp 8) (.const (.bool true)) (.tmp 12)), .none⟩]) (.cond (.tmp 13) (.seq (.ops [⟨(.some 4), (.mov (.const (.string (strOfNums [])))), .none⟩, ⟨(.some 5), (.mov (.const (.int .i64 12))), .none⟩]) .ret) .skip)) (.seq (.ops [⟨(.some 14), (.mov (.tmp 0)), .none⟩, ⟨(.some 15), (.nilC (.tmp 14)), .none⟩, ⟨(.some 16), (.fadr 2 (.tmp 15)), .none⟩, ⟨(.some 17), (.ld (.tmp 16)), .none⟩, ⟨(.some 18), (.mov (.tmp 1)), .none⟩, ⟨(.some 19), (.iadr 1 (.tmp 17) (.tmp 18)), .none⟩, ⟨(.some 20), (.ld (.tmp 19)), .none⟩, ⟨(.some 4), (.mov (.tmp 20)), .none⟩, ⟨(.some 5), (.mov (.const (.int .i64 0))), .none⟩]) .ret))), [(4, .none), (5, .none)]⟩
theorem c65 : cmpF Tryd.prog [] [] 65 = some a65 := by kernel_rfl
def a57 : AFn := ⟨25, (.seq (.ops [⟨(.some 6), (.mov (.const (.int .i64 0))), .none⟩]) (.seq (.ops [⟨(.some 10), (.mov (.tmp 0)), .none⟩, ⟨(.some 11), (.mov (.tmp 2)), .none⟩, ⟨(.some 12), (.call 12 64 [(.tmp 10), (.tmp 11)]), .none⟩, ⟨(.some 9), (.mov (.tmp 12)), .none⟩, ⟨(.some 13), (.ext (.tmp 9) 0), .none⟩, ⟨(.some 14), (.ext (.tmp 9) 1), .none⟩, ⟨(.some 7), (.mov (.tmp 13)), .none⟩, ⟨(.some 8), (.mov (.tmp 14)), .none⟩]) (.seq (.block 0 (.seq (.ops [⟨(.some 16), (.mov (.tmp 8)), .none⟩, ⟨(.some 17), (.bin .neq (.tmp 16) (.const (.int .i64 0))), .none⟩, ⟨(.some 15), (.mov (.tmp 17)), .none⟩]) (.cond (.tmp 15) (.seq (.ops [⟨(.some 18), (.mov (.tmp 8)), .none⟩, ⟨(.some 6), (.mov (.tmp 18)), .none⟩]) .ret) (.seq (.ops [⟨(.some 20), (.mov (.tmp 7)), .none⟩, ⟨(.some 21), (.bin .eql (.tmp 20) (.const (.string (strOfNums [])))), .none⟩, ⟨(.some 19), (.mov (.tmp 21)), .none⟩]) (.cond (.tmp 19) (.seq (.ops [⟨(.some 6), (.mov (.const (.int .i64 12))), .none⟩]) .ret) .skip))))) (.seq (.ops [⟨(.some 22), (.mov (.tmp 1)), .none⟩, ⟨(.some 23), (.mov (.tmp 7)), .none⟩, ⟨(.some 24), (.callm 22 [(.tmp 22), (.tmp 23)]), .none⟩, ⟨(.some 6), (.mov (.tmp 24)), .none⟩]) .ret)))), [(6, .none)]⟩
theorem c57 : cmpF Tryd.prog [3000022] [] 57 = some a57 := by kernel_rfl
def a58 : AFn := ⟨25, (.seq (.ops [⟨(.some 6), (.mov (.const (.int .i64 0))), .none⟩]) (.seq (.ops [⟨(.some 10), (.mov (.tmp 0)), .none⟩, ⟨(.some 11), (.mov (.tmp 2)), .none⟩, ⟨(.some 12), (.call 12 65 [(.tmp 10), (.tmp 11)]), .none⟩, ⟨(.some 9), (.mov (.tmp 12)), .none⟩, ⟨(.some 13), (.ext (.tmp 9) 0), .none⟩, ⟨(.some 14), (.ext (.tmp 9) 1), .none⟩, ⟨(.some 7), (.mov (.tmp 13)), .none⟩, ⟨(.some 8), (.mov (.tmp 14)), .none⟩]) (.seq (.block 0 (.seq (.ops [⟨(.some 16), (.mov (.tmp 8)), .none⟩, ⟨(.some 17), (.bin .neq (.tmp 16) (.const (.int .i64 0))), .none⟩, ⟨(.some 15), (.mov (.tmp 17)), .none⟩]) (.cond (.tmp 15) (.seq (.ops [⟨(.some 18), (.mov (.tmp 8)), .none⟩, ⟨(.some 6), (.mov (.tmp 18)), .none⟩]) .ret) (.seq (.ops [⟨(.some 20), (.mov (.tmp 7)), .none⟩, ⟨(.some 21), (.bin .eql (.tmp 20) (.const (.string (strOfNums [])))), .none⟩, ⟨(.some 19), (.mov (.tmp 21)), .none⟩]) (.cond (.tmp 19) (.seq (.ops [⟨(.some 6), (.mov (.const (.int .i64 12))), .none⟩]) .ret) .skip))))) (.seq (.ops [⟨(.some 22), (.mov (.tmp 1)), .none⟩, ⟨(.some 23), (.mov (.tmp 7)), .none⟩, ⟨(.some 24), (.callm 22 [(.tmp 22), (.tmp 23)]), .none⟩, ⟨(.some 6), (.mov (.tmp 24)), .none⟩]) .ret)))), [(6, .none)]⟩
theorem c58 : cmpF Tryd.prog [3000022] [] 58 = some a58 := by kernel_rfl
def a59 : AFn := ⟨60, (.seq (.ops [⟨(.some 4), (.mov (.const (.int .i64 0))), .none⟩, ⟨(.some 5), (.mov (.const (.int .i64 0))), .none⟩]) (.seq (.ops [⟨(.some 6), (.mov (.const (.int .i64 0))), .none⟩]) (.seq (.seq (.ops [⟨(.some 10), (.mov (.tmp 0)), .none⟩, ⟨(.some 11), (.isNilP false (.tmp 10)), .none⟩]) (.cond (.tmp 11) (.seq (.ops [⟨(.some 12), (.mov (.tmp 6)), .none⟩, ⟨(.some 4), (.mov (.tmp 12)), .none⟩, ⟨(.some 5), (.mov (.const (.int .i64 6))), .none⟩]) .ret) .skip)) (.seq (.ops [⟨(.some 7), (.mov (.const (.int .i64 0))), .none⟩]) (.block 0 (.loop (.block 1 (.seq (.ops [⟨(.some 14), (.mov (.tmp 1)), .none⟩, ⟨(.some 15), (.callm 27 [(.tmp 14), (.const (.int .i64 1))]), .none⟩, ⟨(.some 13), (.mov (.tmp 15)), .none⟩, ⟨(.some 16), (.ext (.tmp 13) 0), .none⟩, ⟨(.some 17), (.ext (.tmp 13) 1), .none⟩, ⟨(.some 8), (.mov (.tmp 16)), .none⟩, ⟨(.some 9), (.mov (.tmp 17)), .none⟩]) (.seq (.seq (.ops [⟨(.some 18), (.mov (.tmp 9)), .none⟩, ⟨(.some 19), (.bin .neq (.tmp 18) (.const (.int .i64 0))), .none⟩]) (.cond (.tmp 19) (.seq (.ops [⟨(.some 20), (.mov (.tmp 6)), .none⟩, ⟨(.some 21), (.mov (.tmp 9)), .none⟩, ⟨(.some 4), (.mov (.tmp 20)), .none⟩, ⟨(.some 5), (.mov (.tmp 21)), .none⟩]) .ret) .skip)) (.seq (.ops [⟨(.some 22), (.mov (.tmp 0)), .none⟩, ⟨(.some 23), (.nilC (.tmp 22)), .none⟩, ⟨(.some 24), (.fadr 0 (.tmp 23)), .none⟩, ⟨(.some 25), (.ld (.tmp 24)), .none⟩, ⟨(.some 26), (.mov (.tmp 7)), .none⟩, ⟨(.some 27), (.mov (.tmp 8)), .none⟩, ⟨(.some 28), (.iadr 3 (.tmp 25) (.tmp 26)), .none⟩, ⟨(.some 29), (.fadr 0 (.tmp 28)), .none⟩, ⟨(.some 30), (.iadrA 2 1 (.tmp 29) (.tmp 27)), .none⟩, ⟨(.some 31), (.ld (.tmp 30)), .none⟩, ⟨(.some 7), (.mov (.tmp 31)), .none⟩]) (.block 2 (.seq (.ops [⟨(.some 33), (.mov (.tmp 7)), .none⟩, ⟨(.some 34), (.bin .eql (.tmp 33) (.const (.int .i64 0))), .none⟩, ⟨(.some 32), (.mov (.tmp 34)), .none⟩]) (.cond (.tmp 32) (.seq (.ops [⟨(.some 35), (.mov (.tmp 6)), .none⟩, ⟨(.some 4), (.mov (.tmp 35)), .none⟩, ⟨(.some 5), (.mov (.const (.int .i64 6))), .none⟩]) .ret) (.seq (.ops [⟨(.some 37), (.mov (.tmp 0)), .none⟩, ⟨(.some 38), (.nilC (.tmp 37)), .none⟩, ⟨(.some 39), (.fadr 0 (.tmp 38)), .none⟩, ⟨(.some 40), (.ld (.tmp 39)), .none⟩, ⟨(.some 41), (.mov (.tmp 7)), .none⟩, ⟨(.some 42), (.iadr 3 (.tmp 40) (.tmp 41)), .none⟩, ⟨(.some 43), (.fadr 2 (.tmp 42)), .none⟩, ⟨(.some 44), (.ld (.tmp 43)), .none⟩, ⟨(.some 45), (.bin .geq (.tmp 44) (.const (.int .i64 0))), .none⟩, ⟨(.some 36), (.mov (.tmp 45)), .none⟩]) (.cond (.tmp 36) (.seq (.draw [(⟨(.some 46), (.mov (.tmp 0)), .none⟩, (false, [])), (⟨(.some 47), (.nilC (.tmp 46)), .none⟩, (false, [])), (⟨(.some 48), (.fadr 1 (.tmp 47)), .none⟩, (false, [])), (⟨(.some 49), (.ld (.tmp 48)), .none⟩, (false, [])), (⟨(.some 50), (.mov (.tmp 0)), .none⟩, (false, [])), (⟨(.some 51), (.nilC (.tmp 50)), .none⟩, (false, [])), (⟨(.some 52), (.fadr 0 (.tmp 51)), .none⟩, (false, [])), (⟨(.some 53), (.ld (.tmp 52)), .none⟩, (false, [])), (⟨(.some 54), (.mov (.tmp 7)), .none⟩, (false, [])), (⟨(.some 55), (.iadr 3 (.tmp 53) (.tmp 54)), .none⟩, (false, [])), (⟨(.some 56), (.fadr 2 (.tmp 55)), .none⟩, (false, [])), (⟨(.some 57), (.ld (.tmp 56)), .none⟩, (false, [])), (⟨(.some 58), (.iadr 1 (.tmp 49) (.tmp 57)), .none⟩, (false, [])), (⟨(.some 59), (.ld (.tmp 58)), .none⟩, (false, [])), (⟨(.some 4), (.mov (.tmp 59)), .none⟩, (false, [])), (⟨(.some 5), (.mov (.const (.int .i64 0))), .none⟩, (false, []))]) .ret) .skip))))))))))))))), [(4, .none), (5, .none)]⟩
theorem c59 : cmpF Tryd.prog [3000027] [] 59 = some a59 := by kernel_rfl
def a61 : AFn := ⟨60, (.seq (.ops [⟨(.some 4), (.mov (.const (.int .i64 0))), .none⟩, ⟨(.some 5), (.mov (.const (.int .i64 0))), .none⟩]) (.seq (.ops [⟨(.some 6), (.mov (.const (.int .i64 0))), .none⟩]) (.seq (.seq (.ops [⟨(.some 10), (.mov (.tmp 0)), .none⟩, ⟨(.some 11), (.isNilP false (.tmp 10)), .none⟩]) (.cond (.tmp 11) (.seq (.ops [⟨(.some 12), (.mov (.tmp 6)), .none⟩, ⟨(.some 4), (.mov (.tmp 12)), .none⟩, ⟨(.some 5), (.mov (.const (.int .i64 6))), .none⟩]) .ret) .skip)) (.seq (.ops [⟨(.some 7), (.mov (.const (.int .i64 0))), .none⟩]) (.block 0 (.loop (.block 1 (.seq (.ops [⟨(.some 14), (.mov (.tmp 1)), .none⟩, ⟨(.some 15), (.callm 27 [(.tmp 14), (.const (.int .i64 1))]), .none⟩, ⟨(.some 13), (.mov (.tmp 15)), .none⟩, ⟨(.some 16), (.ext (.tmp 13) 0), .none⟩, ⟨(.some 17), (.ext (.tmp 13) 1), .none⟩, ⟨(.some 8), (.mov (.tmp 16)), .none⟩, ⟨(.some 9), (.mov (.tmp 17)), .none⟩]) (.seq (.seq (.ops [⟨(.some 18), (.mov (.tmp 9)), .none⟩, ⟨(.some 19), (.bin .neq (.tmp 18) (.const (.int .i64 0))), .none⟩]) (.cond (.tmp 19) (.seq (.ops [⟨(.some 20), (.mov (.tmp 6)), .none⟩, ⟨(.some 21), (.mov (.tmp 9)), .none⟩, ⟨(.some 4), (.mov (.tmp 20)), .none⟩, ⟨(.some 5), (.mov (.tmp 21)), .none⟩]) .ret) .skip)) (.seq (.ops [⟨(.some 22), (.mov (.tmp 0)), .none⟩, ⟨(.some 23), (.nilC (.tmp 22)), .none⟩, ⟨(.some 24), (.fadr 0 (.tmp 23)), .none⟩, ⟨(.some 25), (.ld (.tmp 24)), .none⟩, ⟨(.some 26), (.mov (.tmp 7)), .none⟩, ⟨(.some 27), (.mov (.tmp 8)), .none⟩, ⟨(.some 28), (.iadr 3 (.tmp 25) (.tmp 26)), .none⟩, ⟨(.some 29), (.fadr 0 (.tmp 28)), .none⟩, ⟨(.some 30), (.iadrA 2 1 (.tmp 29) (.tmp 27)), .none⟩, ⟨(.some 31), (.ld (.tmp 30)), .none⟩, ⟨(.some 7), (.mov (.tmp 31)), .none⟩]) (.block 2 (.seq (.ops [⟨(.some 33), (.mov (.tmp 7)), .none⟩, ⟨(.some 34), (.bin .eql (.tmp 33) (.const (.int .i64 0))), .none⟩, ⟨(.some 32), (.mov (.tmp 34)), .none⟩]) (.cond (.tmp 32) (.seq (.ops [⟨(.some 35), (.mov (.tmp 6)), .none⟩, ⟨(.some 4), (.mov (.tmp 35)), .none⟩, ⟨(.some 5), (.mov (.const (.int .i64 6))), .none⟩]) .ret) (.seq (.ops [⟨(.some 37), (.mov (.tmp 0)), .none⟩, ⟨(.some 38), (.nilC (.tmp 37)), .none⟩, ⟨(.some 39), (.fadr 0 (.tmp 38)), .none⟩, ⟨(.some 40), (.ld (.tmp 39)), .none⟩, ⟨(.some 41), (.mov (.tmp 7)), .none⟩, ⟨(.some 42), (.iadr 3 (.tmp 40) (.tmp 41)), .none⟩, ⟨(.some 43), (.fadr 2 (.tmp 42)), .none⟩, ⟨(.some 44), (.ld (.tmp 43)), .none⟩, ⟨(.some 45), (.bin .geq (.tmp 44) (.const (.int .i64 0))), .none⟩, ⟨(.some 36), (.mov (.tmp 45)), .none⟩]) (.cond (.tmp 36) (.seq (.draw [(⟨(.some 46), (.mov (.tmp 0)), .none⟩, (false, [])), (⟨(.some 47), (.nilC (.tmp 46)), .none⟩, (false, [])), (⟨(.some 48), (.fadr 1 (.tmp 47)), .none⟩, (false, [])), (⟨(.some 49), (.ld (.tmp 48)), .none⟩, (false, [])), (⟨(.some 50), (.mov (.tmp 0)), .none⟩, (false, [])), (⟨(.some 51), (.nilC (.tmp 50)), .none⟩, (false, [])), (⟨(.some 52), (.fadr 0 (.tmp 51)), .none⟩, (false, [])), (⟨(.some 53), (.ld (.tmp 52)), .none⟩, (false, [])), (⟨(.some 54), (.mov (.tmp 7)), .none⟩, (false, [])), (⟨(.some 55), (.iadr 3 (.tmp 53) (.tmp 54)), .none⟩, (false, [])), (⟨(.some 56), (.fadr 2 (.tmp 55)), .none⟩, (false, [])), (⟨(.some 57), (.ld (.tmp 56)), .none⟩, (false, [])), (⟨(.some 58), (.iadr 1 (.tmp 49) (.tmp 57)), .none⟩, (false, [])), (⟨(.some 59), (.ld (.tmp 58)), .none⟩, (false, [])), (⟨(.some 4), (.mov (.tmp 59)), .none⟩, (false, [])), (⟨(.some 5), (.mov (.const (.int .i64 0))), .none⟩, (false, []))]) .ret) .skip))))))))))))))), [(4, .none), (5, .none)]⟩
theorem c61 : cmpF Tryd.prog [3000027] [] 61 = some a61 := by kernel_rfl
def a56 : AFn := ⟨16, (.seq (.ops [⟨(.some 4), (.mov (.const (.pointer .none))), .none⟩]) (.seq (.seq (.ops [⟨(.some 5), (.mov (.tmp 1)), .none⟩]) (.cond (.tmp 5) (.seq (.ops [⟨(.some 6), (.mov (.tmp 0)), .none⟩, ⟨(.some 7), (.nilC (.tmp 6)), .none⟩, ⟨(.some 8), (.fadr 0 (.tmp 7)), .none⟩, ⟨(.some 9), (.iadrA 2 1 (.tmp 8) (.const (.int .i64 1))), .none⟩, ⟨(.some 10), (.ld (.tmp 9)), .none⟩, ⟨(.some 4), (.mov (.tmp 10)), .none⟩]) .ret) .skip)) (.seq (.ops [⟨(.some 11), (.mov (.tmp 0)), .none⟩, ⟨(.some 12), (.nilC (.tmp 11)), .none⟩, ⟨(.some 13), (.fadr 0 (.tmp 12)), .none⟩, ⟨(.some 14), (.iadrA 2 1 (.tmp 13) (.const (.int .i64 0))), .none⟩, ⟨(.some 15), (.ld (.tmp 14)), .none⟩, ⟨(.some 4), (.mov (.tmp 15)), .none⟩]) .ret))), [(4, .none)]⟩
theorem c56 : cmpF Tryd.prog [] [] 56 = some a56 := by kernel_rfl
def bkX (nd : List Nd) (ms : List Int) (ws : List (List Int)) : D := .ref [.lst 3 (nd.map ndD), .lst 1 (li .i64 ms), .lst 1 (wsD ws)]
section
variable (nd : List Nd) (ms : List Int) (ws : List (List Int))
theorem blen_giv (hw : ws.length ≤ 1000) : Giv Tryd.prog 67 [bkX nd ms ws] (retV [.c (.int .i64 ws.length)]) := by
  have hl := wsD_len ws
  unfold bkX
  refine Giv.of mixed c67 (Nat.le_of_ble_eq_true rfl) ?_
  simp -dsimp -implicitDefEqProofs (disch := first | omega | (simp only [List.length_append, List.length_cons, List.length_nil, List.length_take, List.length_drop]; omega)) only [a67, hl, ↓aPre, aPost, oneW, allOne, retV, retVA, simprocAttr]
  exact post_eq rfl
theorem word_giv (hw : ws.length ≤ 1000) {i : Nat} (hi : i < ws.length) : Giv Tryd.prog 64 [bkX nd ms ws, .c (.int .i64 i)] (retV [.c (.string (strOfNums (txt (ws.getD i [])))), .c (.int .i64 0)]) := by
  have hl := wsD_len ws
  have hg := wsD_get hi
  have hb := blen_giv nd ms ws hw
  unfold bkX at hb ⊢
  refine Giv.of mixed c64 (Nat.le_of_ble_eq_true rfl) ?_
  simp -dsimp -implicitDefEqProofs (disch := first | omega | (simp only [List.length_append, List.length_cons, List.length_nil, List.length_take, List.length_drop]; omega)) only [a64, hl, ↓aPre, aPost, oneW, allOne, retV, retVA, simprocAttr]
  refine call_giv hb ?_
  simp -dsimp -implicitDefEqProofs (disch := first | omega | (simp only [List.length_append, List.length_cons, List.length_nil, List.length_take, List.length_drop]; omega)) only [hl, hg, ↓aPre, aPost, oneW, allOne, retV, retVA, simprocAttr]
  exact post_eq rfl
theorem bwrite_m (hw : ws.length ≤ 1000) {i : Nat} (hi : i < ws.length) (f : Nat → Int) (hf : Bit f) (n : Nat) {L : List Int} (hL : L = ws.getD i []) (hbl : Bits L) (hne : L ≠ []) (hA : At f n L) (hn : n + L.length < 1000000) :
    GivM Tryd.prog 57 [.d (bkX nd ms ws), .ptr 2000000 0, .d (.c (.int .i64 i))] [(2000000, .box [.sl 1000000 1 0 (pk f n).length, .d (.c (.int .i64 (n : Nat))), .d (.c (.bool false))]), (1000000, .row 1 (li .u8 (pk f n)))] (.d (.c (.int .i64 0))) [(2000000, .box [.sl 1000000 1 0 (pk f (n + L.length)).length, .d (.c (.int .i64 ((n + L.length) : Nat))), .d (.c (.bool false))]), (1000000, .row 1 (li .u8 (pk f (n + L.length))))] := by
  have hg := word_giv nd ms ws hw hi
  rw [← hL] at hg
  have hwm := word_m f hf n L hbl hA hn
  have hb := txt_bytes hbl
  have hl := txt_len L
  have h0 : 0 < L.length := by
    cases L with
    | nil => exact absurd rfl hne
    | cons x l => simp
  have hsz : ((strOfNums (txt L)).toList == (strOfNums []).toList) = false := by
    rw [str_beq hb (fun z hz => by cases hz)]
    refine decide_eq_false fun e => ?_
    have := congrArg List.length e
    rw [hl, List.length_nil] at this
    omega
  unfold bkX at hg ⊢
  refine GivM.of mixed c57 (Nat.le_of_ble_eq_true rfl) rfl rfl ?_
  simp -dsimp -implicitDefEqProofs (disch := first | omega | (simp only [List.length_append, List.length_cons, List.length_nil, List.length_take, List.length_drop]; omega)) only [a57, ↓aPre, aPost, oneW, allOne, retV, retVA, simprocAttr]
  refine call_giv hg ?_
  simp -dsimp -implicitDefEqProofs (disch := first | omega | (simp only [List.length_append, List.length_cons, List.length_nil, List.length_take, List.length_drop]; omega)) only [ibne_f, hsz, ↓aPre, aPost, oneW, allOne, retV, retVA, simprocAttr]
  refine call_mut hwm [] rfl rfl ?_ ?_
  · simp -dsimp -implicitDefEqProofs (disch := first | omega | (simp only [List.length_append, List.length_cons, List.length_nil, List.length_take, List.length_drop]; omega)) only [↓aPre, aPost, oneW, allOne, retV, retVA, simprocAttr]
  simp -dsimp -implicitDefEqProofs (disch := first | omega | (simp only [List.length_append, List.length_cons, List.length_nil, List.length_take, List.length_drop]; omega)) only [↓aPre, aPost, oneW, allOne, retV, retVA, simprocAttr]
  refine end_of rfl ?_
  simp -dsimp -implicitDefEqProofs (disch := first | omega | (simp only [List.length_append, List.length_cons, List.length_nil, List.length_take, List.length_drop]; omega)) only [↓aPre, aPost, oneW, allOne, retV, retVA, simprocAttr]
theorem read1_m (l : List Int) (p : Nat) (hl : l.length ≤ 100000) (hB : Bytes l) (hp : p < 8 * l.length) : GivM Tryd.prog 27 [.ptr 2000000 0, .d (.c (.int .i64 1))] [(2000000, .box [.sl 1000000 1 0 l.length, .d (.c (.int .i64 (p : Nat))), .d (.c (.bool false))]), (1000000, .row 1 (li .u8 l))] (.tup [.d (.c (.int .u32 (bt l p))), .d (.c (.int .i64 0))]) [(2000000, .box [.sl 1000000 1 0 l.length, .d (.c (.int .i64 ((p + 1) : Nat))), .d (.c (.bool false))]), (1000000, .row 1 (li .u8 l))] := by
  have h := read_m l p 1 hl hB (by omega) (by decide)
  have e : hn (pkF l p) 1 = bt l p := by
    rw [hn, hn, pkF, if_pos (by omega), Nat.add_zero]
    omega
  rw [e] at h
  exact h
theorem bread_m (hw : ws.length ≤ 1000) (hms : ms.length = ws.length) (hnd : nd.length ≤ 100000) {i : Nat} (hi : i < ws.length) (l : List Int) (hl : l.length ≤ 100000) (hB : Bytes l) (p : Nat) {L : List Int} (hL : L = ws.getD i []) (hr : rdK nd i L 0 = true) (hA : At (bt l) p L) (hp : p + L.length ≤ 8 * l.length) :
    GivM Tryd.prog 59 [.d (bkX nd ms ws), .ptr 2000000 0] [(2000000, .box [.sl 1000000 1 0 l.length, .d (.c (.int .i64 (p : Nat))), .d (.c (.bool false))]), (1000000, .row 1 (li .u8 l))] (.tup [.d (.c (.int .i64 (ms.getD i 0))), .d (.c (.int .i64 0))]) [(2000000, .box [.sl 1000000 1 0 l.length, .d (.c (.int .i64 ((p + L.length) : Nat))), .d (.c (.bool false))]), (1000000, .row 1 (li .u8 l))] := by
  have hnl := nds_len nd
  have hml := li_length (k := .i64) (l := ms)
  rw [hms] at hml
  have h0 : 0 < L.length := by
    cases L with
    | nil => cases hr
    | cons x l => simp
  unfold bkX
  refine GivM.of mixed c59 (Nat.le_of_ble_eq_true rfl) rfl rfl ?_
  simp -dsimp -implicitDefEqProofs (disch := first | omega | (simp only [List.length_append, List.length_cons, List.length_nil, List.length_take, List.length_drop]; omega)) only [a59, ↓aPre, aPost, oneW, allOne, retV, retVA, simprocAttr]
  refine loop_of (fun s => ∃ (k at_ : Nat), k < L.length ∧ rdK nd i (L.drop k) at_ = true ∧ s.tm 0 = .d (.ref [.lst 3 (nd.map ndD), .lst 1 (li .i64 ms), .lst 1 (wsD ws)]) ∧ s.tm 1 = .ptr 2000000 0 ∧ s.tm 7 = .d (.c (.int .i64 at_)) ∧ s.hp 2000000 = some (.box [.sl 1000000 1 0 l.length, .d (.c (.int .i64 ((p + k) : Nat))), .d (.c (.bool false))]) ∧ s.hp 1000000 = some (.row 1 (li .u8 l))) (fun s => 1000000 - (bxN (s.hp 2000000) 1).toNat) ?_ ?_
  · refine ⟨0, 0, h0, by rw [List.drop_zero]; exact hr, ?_⟩
    simp -dsimp -implicitDefEqProofs (disch := first | omega | (simp only [List.length_append, List.length_cons, List.length_nil, List.length_take, List.length_drop]; omega)) only [Int.natCast_zero, ↓aPre, aPost, oneW, allOne, retV, retVA, simprocAttr]
  clear hr
  rintro s ⟨k, at_, hk, hr, hs⟩
  have hav : (bxN (s.hp 2000000) 1).toNat = p + k := by
    rw [hs.2.2.2.1]
    rfl
  have hrm := read1_m l (p + k) hl hB (by omega)
  have hd : L.drop k = L.getD k 0 :: L.drop (k + 1) := by
    rw [List.drop_eq_getElem_cons hk]
    simp only [List.getD, List.getElem?_eq_getElem hk, Option.getD_some]
  rw [hA k hk] at hrm
  have hbit := bt_bit l (p + k)
  rw [hA k hk] at hbit
  obtain ⟨z, hz⟩ : ∃ z, z = L.getD k 0 := ⟨_, rfl⟩
  rw [← hz] at hrm hd hbit
  rw [hd, rdK, Bool.and_eq_true, decide_eq_true_eq] at hr
  obtain ⟨⟨hat, hn0, hn1⟩, hr⟩ := hr
  have hng := nds_get hat
  obtain ⟨x, hx⟩ : ∃ x, x = nd.getD at_ nd0 := ⟨_, rfl⟩
  rw [← hx] at hng hn0 hn1 hr
  obtain ⟨x0, x1, xm⟩ := x
  obtain ⟨v, hv⟩ : ∃ v : Nat, nxN (x0, x1, xm) z = (v : Int) := ⟨(nxN (x0, x1, xm) z).toNat, by omega⟩
  rw [hv, Int.toNat_natCast] at hr
  rw [hv] at hn0 hn1
  have hng2 := nds_get (nd := nd) (i := v) (by omega)
  obtain ⟨y, hy⟩ : ∃ y, y = nd.getD v nd0 := ⟨_, rfl⟩
  rw [← hy] at hng2 hr
  obtain ⟨y0, y1, ym⟩ := y
  have hv0 : ¬ (v : Int) = 0 := by omega
  by_cases hlast : L.drop (k + 1) = []
  · have hkl : k + 1 = L.length := by
      have := congrArg List.length hlast
      rw [List.length_drop, List.length_nil] at this
      omega
    rw [if_pos hlast, decide_eq_true_eq] at hr
    simp only at hr
    subst hr
    rcases hbit with rfl | rfl
    · simp only [nxN, if_pos] at hv
      subst hv
      simp -dsimp -implicitDefEqProofs (disch := first | omega | (simp only [List.length_append, List.length_cons, List.length_nil, List.length_take, List.length_drop]; omega)) only [hs, ↓aPre, aPost, oneW, allOne, retV, retVA, simprocAttr]
      refine call_mut hrm [] rfl rfl ?_ ?_
      · simp -dsimp -implicitDefEqProofs (disch := first | omega | (simp only [List.length_append, List.length_cons, List.length_nil, List.length_take, List.length_drop]; omega)) only [hs, ↓aPre, aPost, oneW, allOne, retV, retVA, simprocAttr]
      simp -dsimp -implicitDefEqProofs (disch := first | omega | (simp only [List.length_append, List.length_cons, List.length_nil, List.length_take, List.length_drop]; omega)) only [hs, hnl, hng, hng2, ibne_f, ibeq_f hv0, hml, ↓aPre, aPost, oneW, allOne, retV, retVA, simprocAttr]
      refine end_of rfl ?_
      rw [← hkl]
      simp -dsimp -implicitDefEqProofs (disch := first | omega | (simp only [List.length_append, List.length_cons, List.length_nil, List.length_take, List.length_drop]; omega)) only [hs, Nat.add_assoc, ↓aPre, aPost, oneW, allOne, retV, retVA, simprocAttr]
    · simp only [nxN, show ¬ (1 : Int) = 0 by decide, if_false] at hv
      subst hv
      simp -dsimp -implicitDefEqProofs (disch := first | omega | (simp only [List.length_append, List.length_cons, List.length_nil, List.length_take, List.length_drop]; omega)) only [hs, ↓aPre, aPost, oneW, allOne, retV, retVA, simprocAttr]
      refine call_mut hrm [] rfl rfl ?_ ?_
      · simp -dsimp -implicitDefEqProofs (disch := first | omega | (simp only [List.length_append, List.length_cons, List.length_nil, List.length_take, List.length_drop]; omega)) only [hs, ↓aPre, aPost, oneW, allOne, retV, retVA, simprocAttr]
      simp -dsimp -implicitDefEqProofs (disch := first | omega | (simp only [List.length_append, List.length_cons, List.length_nil, List.length_take, List.length_drop]; omega)) only [hs, hnl, hng, hng2, ibne_f, ibeq_f hv0, hml, ↓aPre, aPost, oneW, allOne, retV, retVA, simprocAttr]
      refine end_of rfl ?_
      rw [← hkl]
      simp -dsimp -implicitDefEqProofs (disch := first | omega | (simp only [List.length_append, List.length_cons, List.length_nil, List.length_take, List.length_drop]; omega)) only [hs, Nat.add_assoc, ↓aPre, aPost, oneW, allOne, retV, retVA, simprocAttr]
  · rw [if_neg hlast, Bool.and_eq_true, decide_eq_true_eq] at hr
    have hym : ¬ ym ≥ 0 := by
      have := hr.1
      simp only at this
      omega
    have hk1 : k + 1 < L.length := by
      refine Decidable.byContradiction fun c => hlast (List.drop_eq_nil_of_le (by omega))
    rcases hbit with rfl | rfl
    · simp only [nxN, if_pos] at hv
      subst hv
      simp -dsimp -implicitDefEqProofs (disch := first | omega | (simp only [List.length_append, List.length_cons, List.length_nil, List.length_take, List.length_drop]; omega)) only [hs, ↓aPre, aPost, oneW, allOne, retV, retVA, simprocAttr]
      refine call_mut hrm [] rfl rfl ?_ ?_
      · simp -dsimp -implicitDefEqProofs (disch := first | omega | (simp only [List.length_append, List.length_cons, List.length_nil, List.length_take, List.length_drop]; omega)) only [hs, ↓aPre, aPost, oneW, allOne, retV, retVA, simprocAttr]
      simp -dsimp -implicitDefEqProofs (disch := first | omega | (simp only [List.length_append, List.length_cons, List.length_nil, List.length_take, List.length_drop]; omega)) only [hs, hnl, hng, hng2, ibne_f, ibeq_f hv0, hml, hym, ↓aPre, aPost, oneW, allOne, retV, retVA, simprocAttr]
      refine round_of ⟨k + 1, v, hk1, hr.2, ?_⟩ ?_
      · simp -dsimp -implicitDefEqProofs (disch := first | omega | (simp only [List.length_append, List.length_cons, List.length_nil, List.length_take, List.length_drop]; omega)) only [hs, hnl, hng, Nat.add_assoc, ↓aPre, aPost, oneW, allOne, retV, retVA, simprocAttr]
      · simp -dsimp -implicitDefEqProofs (disch := first | omega | (simp only [List.length_append, List.length_cons, List.length_nil, List.length_take, List.length_drop]; omega)) only [hs, bxN_b, ↓aPre, aPost, oneW, allOne, retV, retVA, simprocAttr]
        omega
    · simp only [nxN, show ¬ (1 : Int) = 0 by decide, if_false] at hv
      subst hv
      simp -dsimp -implicitDefEqProofs (disch := first | omega | (simp only [List.length_append, List.length_cons, List.length_nil, List.length_take, List.length_drop]; omega)) only [hs, ↓aPre, aPost, oneW, allOne, retV, retVA, simprocAttr]
      refine call_mut hrm [] rfl rfl ?_ ?_
      · simp -dsimp -implicitDefEqProofs (disch := first | omega | (simp only [List.length_append, List.length_cons, List.length_nil, List.length_take, List.length_drop]; omega)) only [hs, ↓aPre, aPost, oneW, allOne, retV, retVA, simprocAttr]
      simp -dsimp -implicitDefEqProofs (disch := first | omega | (simp only [List.length_append, List.length_cons, List.length_nil, List.length_take, List.length_drop]; omega)) only [hs, hnl, hng, hng2, ibne_f, ibeq_f hv0, hml, hym, ↓aPre, aPost, oneW, allOne, retV, retVA, simprocAttr]
      refine round_of ⟨k + 1, v, hk1, hr.2, ?_⟩ ?_
      · simp -dsimp -implicitDefEqProofs (disch := first | omega | (simp only [List.length_append, List.length_cons, List.length_nil, List.length_take, List.length_drop]; omega)) only [hs, hnl, hng, Nat.add_assoc, ↓aPre, aPost, oneW, allOne, retV, retVA, simprocAttr]
      · simp -dsimp -implicitDefEqProofs (disch := first | omega | (simp only [List.length_append, List.length_cons, List.length_nil, List.length_take, List.length_drop]; omega)) only [hs, bxN_b, ↓aPre, aPost, oneW, allOne, retV, retVA, simprocAttr]
        omega
end
end Go.Proofs.YtihgplkfikpgbaaDoor
namespace Go.Proofs.YtihgplkfikpgbaaDoor
open Go.Eng Go.RowKit
section
variable (nd : List Nd) (ms : List Int) (ws : List (List Int))
theorem blen2_giv (hw : ws.length ≤ 1000) : Giv Tryd.prog 68 [bkX nd ms ws] (retV [.c (.int .i64 ws.length)]) := by
  have hl := wsD_len ws
  unfold bkX
  refine Giv.of mixed c68 (Nat.le_of_ble_eq_true rfl) ?_
  simp -dsimp -implicitDefEqProofs (disch := first | omega | (simp only [List.length_append, List.length_cons, List.length_nil, List.length_take, List.length_drop]; omega)) only [a68, hl, ↓aPre, aPost, oneW, allOne, retV, retVA, simprocAttr]
  exact post_eq rfl
theorem word2_giv (hw : ws.length ≤ 1000) {i : Nat} (hi : i < ws.length) : Giv Tryd.prog 65 [bkX nd ms ws, .c (.int .i64 i)] (retV [.c (.string (strOfNums (txt (ws.getD i [])))), .c (.int .i64 0)]) := by
  have hl := wsD_len ws
  have hg := wsD_get hi
  have hb := blen2_giv nd ms ws hw
  unfold bkX at hb ⊢
  refine Giv.of mixed c65 (Nat.le_of_ble_eq_true rfl) ?_
  simp -dsimp -implicitDefEqProofs (disch := first | omega | (simp only [List.length_append, List.length_cons, List.length_nil, List.length_take, List.length_drop]; omega)) only [a65, hl, ↓aPre, aPost, oneW, allOne, retV, retVA, simprocAttr]
  refine call_giv hb ?_
  simp -dsimp -implicitDefEqProofs (disch := first | omega | (simp only [List.length_append, List.length_cons, List.length_nil, List.length_take, List.length_drop]; omega)) only [hl, hg, ↓aPre, aPost, oneW, allOne, retV, retVA, simprocAttr]
  exact post_eq rfl
theorem bwrite2_m (hw : ws.length ≤ 1000) {i : Nat} (hi : i < ws.length) (f : Nat → Int) (hf : Bit f) (n : Nat) {L : List Int} (hL : L = ws.getD i []) (hbl : Bits L) (hne : L ≠ []) (hA : At f n L) (hn : n + L.length < 1000000) :
    GivM Tryd.prog 58 [.d (bkX nd ms ws), .ptr 2000000 0, .d (.c (.int .i64 i))] [(2000000, .box [.sl 1000000 1 0 (pk f n).length, .d (.c (.int .i64 (n : Nat))), .d (.c (.bool false))]), (1000000, .row 1 (li .u8 (pk f n)))] (.d (.c (.int .i64 0))) [(2000000, .box [.sl 1000000 1 0 (pk f (n + L.length)).length, .d (.c (.int .i64 ((n + L.length) : Nat))), .d (.c (.bool false))]), (1000000, .row 1 (li .u8 (pk f (n + L.length))))] := by
  have hg := word2_giv nd ms ws hw hi
  rw [← hL] at hg
  have hwm := word_m f hf n L hbl hA hn
  have hb := txt_bytes hbl
  have hl := txt_len L
  have h0 : 0 < L.length := by
    cases L with
    | nil => exact absurd rfl hne
    | cons x l => simp
  have hsz : ((strOfNums (txt L)).toList == (strOfNums []).toList) = false := by
    rw [str_beq hb (fun z hz => by cases hz)]
    refine decide_eq_false fun e => ?_
    have := congrArg List.length e
    rw [hl, List.length_nil] at this
    omega
  unfold bkX at hg ⊢
  refine GivM.of mixed c58 (Nat.le_of_ble_eq_true rfl) rfl rfl ?_
  simp -dsimp -implicitDefEqProofs (disch := first | omega | (simp only [List.length_append, List.length_cons, List.length_nil, List.length_take, List.length_drop]; omega)) only [a58, ↓aPre, aPost, oneW, allOne, retV, retVA, simprocAttr]
  refine call_giv hg ?_
  simp -dsimp -implicitDefEqProofs (disch := first | omega | (simp only [List.length_append, List.length_cons, List.length_nil, List.length_take, List.length_drop]; omega)) only [ibne_f, hsz, ↓aPre, aPost, oneW, allOne, retV, retVA, simprocAttr]
  refine call_mut hwm [] rfl rfl ?_ ?_
  · simp -dsimp -implicitDefEqProofs (disch := first | omega | (simp only [List.length_append, List.length_cons, List.length_nil, List.length_take, List.length_drop]; omega)) only [↓aPre, aPost, oneW, allOne, retV, retVA, simprocAttr]
  simp -dsimp -implicitDefEqProofs (disch := first | omega | (simp only [List.length_append, List.length_cons, List.length_nil, List.length_take, List.length_drop]; omega)) only [↓aPre, aPost, oneW, allOne, retV, retVA, simprocAttr]
  refine end_of rfl ?_
  simp -dsimp -implicitDefEqProofs (disch := first | omega | (simp only [List.length_append, List.length_cons, List.length_nil, List.length_take, List.length_drop]; omega)) only [↓aPre, aPost, oneW, allOne, retV, retVA, simprocAttr]
theorem bread2_m (hw : ws.length ≤ 1000) (hms : ms.length = ws.length) (hnd : nd.length ≤ 100000) {i : Nat} (hi : i < ws.length) (l : List Int) (hl : l.length ≤ 100000) (hB : Bytes l) (p : Nat) {L : List Int} (hL : L = ws.getD i []) (hr : rdK nd i L 0 = true) (hA : At (bt l) p L) (hp : p + L.length ≤ 8 * l.length) :
    GivM Tryd.prog 61 [.d (bkX nd ms ws), .ptr 2000000 0] [(2000000, .box [.sl 1000000 1 0 l.length, .d (.c (.int .i64 (p : Nat))), .d (.c (.bool false))]), (1000000, .row 1 (li .u8 l))] (.tup [.d (.c (.int .i64 (ms.getD i 0))), .d (.c (.int .i64 0))]) [(2000000, .box [.sl 1000000 1 0 l.length, .d (.c (.int .i64 ((p + L.length) : Nat))), .d (.c (.bool false))]), (1000000, .row 1 (li .u8 l))] := by
  have hnl := nds_len nd
  have hml := li_length (k := .i64) (l := ms)
  rw [hms] at hml
  have h0 : 0 < L.length := by
    cases L with
    | nil => cases hr
    | cons x l => simp
  unfold bkX
  refine GivM.of mixed c61 (Nat.le_of_ble_eq_true rfl) rfl rfl ?_
  simp -dsimp -implicitDefEqProofs (disch := first | omega | (simp only [List.length_append, List.length_cons, List.length_nil, List.length_take, List.length_drop]; omega)) only [a61, ↓aPre, aPost, oneW, allOne, retV, retVA, simprocAttr]
  refine loop_of (fun s => ∃ (k at_ : Nat), k < L.length ∧ rdK nd i (L.drop k) at_ = true ∧ s.tm 0 = .d (.ref [.lst 3 (nd.map ndD), .lst 1 (li .i64 ms), .lst 1 (wsD ws)]) ∧ s.tm 1 = .ptr 2000000 0 ∧ s.tm 7 = .d (.c (.int .i64 at_)) ∧ s.hp 2000000 = some (.box [.sl 1000000 1 0 l.length, .d (.c (.int .i64 ((p + k) : Nat))), .d (.c (.bool false))]) ∧ s.hp 1000000 = some (.row 1 (li .u8 l))) (fun s => 1000000 - (bxN (s.hp 2000000) 1).toNat) ?_ ?_
  · refine ⟨0, 0, h0, by rw [List.drop_zero]; exact hr, ?_⟩
    simp -dsimp -implicitDefEqProofs (disch := first | omega | (simp only [List.length_append, List.length_cons, List.length_nil, List.length_take, List.length_drop]; omega)) only [Int.natCast_zero, ↓aPre, aPost, oneW, allOne, retV, retVA, simprocAttr]
  clear hr
  rintro s ⟨k, at_, hk, hr, hs⟩
  have hav : (bxN (s.hp 2000000) 1).toNat = p + k := by
    rw [hs.2.2.2.1]
    rfl
  have hrm := read1_m l (p + k) hl hB (by omega)
  have hd : L.drop k = L.getD k 0 :: L.drop (k + 1) := by
    rw [List.drop_eq_getElem_cons hk]
    simp only [List.getD, List.getElem?_eq_getElem hk, Option.getD_some]
  rw [hA k hk] at hrm
  have hbit := bt_bit l (p + k)
  rw [hA k hk] at hbit
  obtain ⟨z, hz⟩ : ∃ z, z = L.getD k 0 := ⟨_, rfl⟩
  rw [← hz] at hrm hd hbit
  rw [hd, rdK, Bool.and_eq_true, decide_eq_true_eq] at hr
  obtain ⟨⟨hat, hn0, hn1⟩, hr⟩ := hr
  have hng := nds_get hat
  obtain ⟨x, hx⟩ : ∃ x, x = nd.getD at_ nd0 := ⟨_, rfl⟩
  rw [← hx] at hng hn0 hn1 hr
  obtain ⟨x0, x1, xm⟩ := x
  obtain ⟨v, hv⟩ : ∃ v : Nat, nxN (x0, x1, xm) z = (v : Int) := ⟨(nxN (x0, x1, xm) z).toNat, by omega⟩
  rw [hv, Int.toNat_natCast] at hr
  rw [hv] at hn0 hn1
  have hng2 := nds_get (nd := nd) (i := v) (by omega)
  obtain ⟨y, hy⟩ : ∃ y, y = nd.getD v nd0 := ⟨_, rfl⟩
  rw [← hy] at hng2 hr
  obtain ⟨y0, y1, ym⟩ := y
  have hv0 : ¬ (v : Int) = 0 := by omega
  by_cases hlast : L.drop (k + 1) = []
  · have hkl : k + 1 = L.length := by
      have := congrArg List.length hlast
      rw [List.length_drop, List.length_nil] at this
      omega
    rw [if_pos hlast, decide_eq_true_eq] at hr
    simp only at hr
    subst hr
    rcases hbit with rfl | rfl
    · simp only [nxN, if_pos] at hv
      subst hv
      simp -dsimp -implicitDefEqProofs (disch := first | omega | (simp only [List.length_append, List.length_cons, List.length_nil, List.length_take, List.length_drop]; omega)) only [hs, ↓aPre, aPost, oneW, allOne, retV, retVA, simprocAttr]
      refine call_mut hrm [] rfl rfl ?_ ?_
      · simp -dsimp -implicitDefEqProofs (disch := first | omega | (simp only [List.length_append, List.length_cons, List.length_nil, List.length_take, List.length_drop]; omega)) only [hs, ↓aPre, aPost, oneW, allOne, retV, retVA, simprocAttr]
      simp -dsimp -implicitDefEqProofs (disch := first | omega | (simp only [List.length_append, List.length_cons, List.length_nil, List.length_take, List.length_drop]; omega)) only [hs, hnl, hng, hng2, ibne_f, ibeq_f hv0, hml, ↓aPre, aPost, oneW, allOne, retV, retVA, simprocAttr]
      refine end_of rfl ?_
      rw [← hkl]
      simp -dsimp -implicitDefEqProofs (disch := first | omega | (simp only [List.length_append, List.length_cons, List.length_nil, List.length_take, List.length_drop]; omega)) only [hs, Nat.add_assoc, ↓aPre, aPost, oneW, allOne, retV, retVA, simprocAttr]
    · simp only [nxN, show ¬ (1 : Int) = 0 by decide, if_false] at hv
      subst hv
      simp -dsimp -implicitDefEqProofs (disch := first | omega | (simp only [List.length_append, List.length_cons, List.length_nil, List.length_take, List.length_drop]; omega)) only [hs, ↓aPre, aPost, oneW, allOne, retV, retVA, simprocAttr]
      refine call_mut hrm [] rfl rfl ?_ ?_
      · simp -dsimp -implicitDefEqProofs (disch := first | omega | (simp only [List.length_append, List.length_cons, List.length_nil, List.length_take, List.length_drop]; omega)) only [hs, ↓aPre, aPost, oneW, allOne, retV, retVA, simprocAttr]
      simp -dsimp -implicitDefEqProofs (disch := first | omega | (simp only [List.length_append, List.length_cons, List.length_nil, List.length_take, List.length_drop]; omega)) only [hs, hnl, hng, hng2, ibne_f, ibeq_f hv0, hml, ↓aPre, aPost, oneW, allOne, retV, retVA, simprocAttr]
      refine end_of rfl ?_
      rw [← hkl]
      simp -dsimp -implicitDefEqProofs (disch := first | omega | (simp only [List.length_append, List.length_cons, List.length_nil, List.length_take, List.length_drop]; omega)) only [hs, Nat.add_assoc, ↓aPre, aPost, oneW, allOne, retV, retVA, simprocAttr]
  · rw [if_neg hlast, Bool.and_eq_true, decide_eq_true_eq] at hr
    have hym : ¬ ym ≥ 0 := by
      have := hr.1
      simp only at this
      omega
    have hk1 : k + 1 < L.length := by
      refine Decidable.byContradiction fun c => hlast (List.drop_eq_nil_of_le (by omega))
    rcases hbit with rfl | rfl
    · simp only [nxN, if_pos] at hv
      subst hv
      simp -dsimp -implicitDefEqProofs (disch := first | omega | (simp only [List.length_append, List.length_cons, List.length_nil, List.length_take, List.length_drop]; omega)) only [hs, ↓aPre, aPost, oneW, allOne, retV, retVA, simprocAttr]
      refine call_mut hrm [] rfl rfl ?_ ?_
      · simp -dsimp -implicitDefEqProofs (disch := first | omega | (simp only [List.length_append, List.length_cons, List.length_nil, List.length_take, List.length_drop]; omega)) only [hs, ↓aPre, aPost, oneW, allOne, retV, retVA, simprocAttr]
      simp -dsimp -implicitDefEqProofs (disch := first | omega | (simp only [List.length_append, List.length_cons, List.length_nil, List.length_take, List.length_drop]; omega)) only [hs, hnl, hng, hng2, ibne_f, ibeq_f hv0, hml, hym, ↓aPre, aPost, oneW, allOne, retV, retVA, simprocAttr]
      refine round_of ⟨k + 1, v, hk1, hr.2, ?_⟩ ?_
      · simp -dsimp -implicitDefEqProofs (disch := first | omega | (simp only [List.length_append, List.length_cons, List.length_nil, List.length_take, List.length_drop]; omega)) only [hs, hnl, hng, Nat.add_assoc, ↓aPre, aPost, oneW, allOne, retV, retVA, simprocAttr]
      · simp -dsimp -implicitDefEqProofs (disch := first | omega | (simp only [List.length_append, List.length_cons, List.length_nil, List.length_take, List.length_drop]; omega)) only [hs, bxN_b, ↓aPre, aPost, oneW, allOne, retV, retVA, simprocAttr]
        omega
    · simp only [nxN, show ¬ (1 : Int) = 0 by decide, if_false] at hv
      subst hv
      simp -dsimp -implicitDefEqProofs (disch := first | omega | (simp only [List.length_append, List.length_cons, List.length_nil, List.length_take, List.length_drop]; omega)) only [hs, ↓aPre, aPost, oneW, allOne, retV, retVA, simprocAttr]
      refine call_mut hrm [] rfl rfl ?_ ?_
      · simp -dsimp -implicitDefEqProofs (disch := first | omega | (simp only [List.length_append, List.length_cons, List.length_nil, List.length_take, List.length_drop]; omega)) only [hs, ↓aPre, aPost, oneW, allOne, retV, retVA, simprocAttr]
      simp -dsimp -implicitDefEqProofs (disch := first | omega | (simp only [List.length_append, List.length_cons, List.length_nil, List.length_take, List.length_drop]; omega)) only [hs, hnl, hng, hng2, ibne_f, ibeq_f hv0, hml, hym, ↓aPre, aPost, oneW, allOne, retV, retVA, simprocAttr]
      refine round_of ⟨k + 1, v, hk1, hr.2, ?_⟩ ?_
      · simp -dsimp -implicitDefEqProofs (disch := first | omega | (simp only [List.length_append, List.length_cons, List.length_nil, List.length_take, List.length_drop]; omega)) only [hs, hnl, hng, Nat.add_assoc, ↓aPre, aPost, oneW, allOne, retV, retVA, simprocAttr]
      · simp -dsimp -implicitDefEqProofs (disch := first | omega | (simp only [List.length_append, List.length_cons, List.length_nil, List.length_take, List.length_drop]; omega)) only [hs, bxN_b, ↓aPre, aPost, oneW, allOne, retV, retVA, simprocAttr]
        omega
end
end Go.Proofs.YtihgplkfikpgbaaDoor
