/- A word laid into a book. No condition but what each says. A word laid into the book of modes. No condition but what each says. -/
import Derived.Test.YtihgplkfikpgbaaDoorWWr
import Derived.Test.YtihgplkfikpgbaaDoorLFx
set_option linter.unusedSimpArgs false
set_option linter.unusedVariables false
set_option maxRecDepth 8000
set_option maxHeartbeats 4000000
namespace Go.Proofs.YtihgplkfikpgbaaDoor
open Go.Eng Go.RowKit
def a53 : AFn := ⟨113, (.seq (.ops [⟨(.some 6), (.mov (.const (.int .i64 0))), .none⟩]) (.seq (.seq (.ops [⟨(.some 10), (.mov (.tmp 1)), .none⟩, ⟨(.some 11), (.bin .eql (.tmp 10) (.const (.string (strOfNums [])))), .none⟩]) (.cond (.tmp 11) (.seq (.ops [⟨(.some 6), (.mov (.const (.int .i64 0))), .none⟩]) .ret) .skip)) (.seq (.ops [⟨(.some 7), (.mov (.const (.int .i64 0))), .none⟩]) (.seq (.seq (.ops [⟨(.some 12), (.mov (.tmp 1)), .none⟩, ⟨(.some 13), (.lenS (.tmp 12)), .none⟩, ⟨(.some 14), (.mov (.const (.int .i64 0))), .none⟩]) (.block 0 (.loop (.seq (.ops [⟨(.some 15), (.bin .lss (.tmp 14) (.tmp 13)), .none⟩]) (.seq (.cond (.tmp 15) .skip (.exit 0)) (.seq (.block 1 (.seq (.ops [⟨(.some 16), (.mov (.tmp 14)), .none⟩, ⟨(.some 8), (.mov (.tmp 16)), .none⟩]) (.seq (.ops [⟨(.some 17), (.mov (.tmp 1)), .none⟩, ⟨(.some 18), (.mov (.tmp 8)), .none⟩, ⟨(.some 19), (.idxS (.tmp 17) (.tmp 18)), .none⟩, ⟨(.some 20), (.cvI .i64 (.tmp 19)), .none⟩, ⟨(.some 21), (.bin .sub (.tmp 20) (.const (.int .i64 48))), .none⟩, ⟨(.some 9), (.mov (.tmp 21)), .none⟩]) (.seq (.seq (.ops [⟨(.some 22), (.mov (.tmp 9)), .none⟩, ⟨(.some 23), (.bin .neq (.tmp 22) (.const (.int .i64 0))), .none⟩, ⟨(.some 24), (.mov (.tmp 23)), .none⟩, ⟨(.some 25), (.mov (.tmp 9)), (.some (24, true))⟩, ⟨(.some 26), (.bin .neq (.tmp 25) (.const (.int .i64 1))), (.some (24, true))⟩, ⟨(.some 27), (.pick (.tmp 24) (.tmp 26) (.const (.bool false))), .none⟩]) (.cond (.tmp 27) (.seq (.ops [⟨(.some 6), (.mov (.const (.int .i64 3))), .none⟩]) .ret) .skip)) (.seq (.seq (.ops [⟨(.some 28), (.mov (.tmp 0)), .none⟩, ⟨(.some 29), (.nilC (.tmp 28)), .none⟩, ⟨(.some 30), (.fadr 0 (.tmp 29)), .none⟩, ⟨(.some 31), (.ld (.tmp 30)), .none⟩, ⟨(.some 32), (.mov (.tmp 7)), .none⟩, ⟨(.some 33), (.iadr 3 (.tmp 31) (.tmp 32)), .none⟩, ⟨(.some 34), (.fadr 2 (.tmp 33)), .none⟩, ⟨(.some 35), (.ld (.tmp 34)), .none⟩, ⟨(.some 36), (.bin .geq (.tmp 35) (.const (.int .i64 0))), .none⟩]) (.cond (.tmp 36) (.seq (.ops [⟨(.some 6), (.mov (.const (.int .i64 14))), .none⟩]) .ret) .skip)) (.seq (.seq (.ops [⟨(.some 37), (.mov (.tmp 0)), .none⟩, ⟨(.some 38), (.nilC (.tmp 37)), .none⟩, ⟨(.some 39), (.fadr 0 (.tmp 38)), .none⟩, ⟨(.some 40), (.ld (.tmp 39)), .none⟩, ⟨(.some 41), (.mov (.tmp 7)), .none⟩, ⟨(.some 42), (.mov (.tmp 9)), .none⟩, ⟨(.some 43), (.iadr 3 (.tmp 40) (.tmp 41)), .none⟩, ⟨(.some 44), (.fadr 0 (.tmp 43)), .none⟩, ⟨(.some 45), (.iadrA 2 1 (.tmp 44) (.tmp 42)), .none⟩, ⟨(.some 46), (.ld (.tmp 45)), .none⟩, ⟨(.some 47), (.bin .eql (.tmp 46) (.const (.int .i64 0))), .none⟩]) (.cond (.tmp 47) (.seq (.ops [⟨(.some 48), (.mov (.tmp 0)), .none⟩, ⟨(.some 49), (.mov (.tmp 0)), .none⟩, ⟨(.some 50), (.nilC (.tmp 49)), .none⟩, ⟨(.some 51), (.fadr 0 (.tmp 50)), .none⟩, ⟨(.some 52), (.ld (.tmp 51)), .none⟩, ⟨(.some 53), (.build [(.int .i64 0), (.int .i64 0), (.int .i64 0)] [(2, (1, (.const (.int .i64 (-1)))))]), .none⟩, ⟨(.some 54), (.lit 3 [(.tmp 53)]), .none⟩, ⟨(.some 55), (.app 55 3 24 (.tmp 52) (.tmp 54)), .none⟩, ⟨(.some 56), (.nilC (.tmp 48)), .none⟩, ⟨(.some 57), (.fadr 0 (.tmp 56)), .none⟩, ⟨.none, (.st 1 (.tmp 57) (.tmp 55)), .none⟩]) (.draw [(⟨(.some 58), (.mov (.tmp 0)), .none⟩, (false, [])), (⟨(.some 59), (.nilC (.tmp 58)), .none⟩, (false, [])), (⟨(.some 60), (.fadr 0 (.tmp 59)), .none⟩, (false, [])), (⟨(.some 61), (.ld (.tmp 60)), .none⟩, (false, [])), (⟨(.some 62), (.mov (.tmp 7)), .none⟩, (false, [])), (⟨(.some 63), (.mov (.tmp 9)), .none⟩, (false, [])), (⟨(.some 64), (.mov (.tmp 0)), .none⟩, (false, [])), (⟨(.some 65), (.nilC (.tmp 64)), .none⟩, (false, [])), (⟨(.some 66), (.fadr 0 (.tmp 65)), .none⟩, (false, [])), (⟨(.some 67), (.ld (.tmp 66)), .none⟩, (false, [])), (⟨(.some 68), (.len (.tmp 67)), .none⟩, (false, [])), (⟨(.some 69), (.bin .sub (.tmp 68) (.const (.int .i64 1))), .none⟩, (false, [])), (⟨(.some 70), (.iadr 3 (.tmp 61) (.tmp 62)), .none⟩, (false, [])), (⟨(.some 71), (.fadr 0 (.tmp 70)), .none⟩, (false, [])), (⟨(.some 72), (.iadrA 2 1 (.tmp 71) (.tmp 63)), .none⟩, (false, [])), (⟨.none, (.st 1 (.tmp 72) (.tmp 69)), .none⟩, (false, []))])) .skip)) (.ops [⟨(.some 73), (.mov (.tmp 0)), .none⟩, ⟨(.some 74), (.nilC (.tmp 73)), .none⟩, ⟨(.some 75), (.fadr 0 (.tmp 74)), .none⟩, ⟨(.some 76), (.ld (.tmp 75)), .none⟩, ⟨(.some 77), (.mov (.tmp 7)), .none⟩, ⟨(.some 78), (.mov (.tmp 9)), .none⟩, ⟨(.some 79), (.iadr 3 (.tmp 76) (.tmp 77)), .none⟩, ⟨(.some 80), (.fadr 0 (.tmp 79)), .none⟩, ⟨(.some 81), (.iadrA 2 1 (.tmp 80) (.tmp 78)), .none⟩, ⟨(.some 82), (.ld (.tmp 81)), .none⟩, ⟨(.some 7), (.mov (.tmp 82)), .none⟩]))))))) (.ops [⟨(.some 83), (.bin .add (.tmp 14) (.const (.int .i64 1))), .none⟩, ⟨(.some 14), (.mov (.tmp 83)), .none⟩]))))))) (.seq (.seq (.ops [⟨(.some 84), (.mov (.tmp 0)), .none⟩, ⟨(.some 85), (.nilC (.tmp 84)), .none⟩, ⟨(.some 86), (.fadr 0 (.tmp 85)), .none⟩, ⟨(.some 87), (.ld (.tmp 86)), .none⟩, ⟨(.some 88), (.mov (.tmp 7)), .none⟩, ⟨(.some 89), (.iadr 3 (.tmp 87) (.tmp 88)), .none⟩, ⟨(.some 90), (.fadr 2 (.tmp 89)), .none⟩, ⟨(.some 91), (.ld (.tmp 90)), .none⟩, ⟨(.some 92), (.bin .geq (.tmp 91) (.const (.int .i64 0))), .none⟩, ⟨(.some 93), (.mov (.tmp 92)), .none⟩, ⟨(.some 94), (.mov (.tmp 0)), (.some (93, false))⟩, ⟨(.some 95), (.nilC (.tmp 94)), (.some (93, false))⟩, ⟨(.some 96), (.fadr 0 (.tmp 95)), (.some (93, false))⟩, ⟨(.some 97), (.ld (.tmp 96)), (.some (93, false))⟩, ⟨(.some 98), (.mov (.tmp 7)), (.some (93, false))⟩, ⟨(.some 99), (.iadr 3 (.tmp 97) (.tmp 98)), (.some (93, false))⟩, ⟨(.some 100), (.fadr 0 (.tmp 99)), (.some (93, false))⟩, ⟨(.some 101), (.ldn 2 (.tmp 100)), (.some (93, false))⟩, ⟨(.some 102), (.build [(.int .i64 0), (.int .i64 0)] []), (.some (93, false))⟩, ⟨(.some 103), (.eqG [false, false] true (.tmp 101) (.tmp 102)), (.some (93, false))⟩, ⟨(.some 104), (.pick (.tmp 93) (.const (.bool true)) (.tmp 103)), .none⟩]) (.cond (.tmp 104) (.seq (.ops [⟨(.some 6), (.mov (.const (.int .i64 14))), .none⟩]) .ret) .skip)) (.seq (.ops [⟨(.some 105), (.mov (.tmp 0)), .none⟩, ⟨(.some 106), (.nilC (.tmp 105)), .none⟩, ⟨(.some 107), (.fadr 0 (.tmp 106)), .none⟩, ⟨(.some 108), (.ld (.tmp 107)), .none⟩, ⟨(.some 109), (.mov (.tmp 7)), .none⟩, ⟨(.some 110), (.mov (.tmp 2)), .none⟩, ⟨(.some 111), (.iadr 3 (.tmp 108) (.tmp 109)), .none⟩, ⟨(.some 112), (.fadr 2 (.tmp 111)), .none⟩, ⟨.none, (.st 1 (.tmp 112) (.tmp 110)), .none⟩]) (.seq (.ops [⟨(.some 6), (.mov (.const (.int .i64 0))), .none⟩]) .ret))))))), [(6, .none)]⟩
theorem c53 : cmpF Tryd.prog [] [] 53 = some a53 := by kernel_rfl
def a55 : AFn := ⟨113, (.seq (.ops [⟨(.some 6), (.mov (.const (.int .i64 0))), .none⟩]) (.seq (.seq (.ops [⟨(.some 10), (.mov (.tmp 1)), .none⟩, ⟨(.some 11), (.bin .eql (.tmp 10) (.const (.string (strOfNums [])))), .none⟩]) (.cond (.tmp 11) (.seq (.ops [⟨(.some 6), (.mov (.const (.int .i64 0))), .none⟩]) .ret) .skip)) (.seq (.ops [⟨(.some 7), (.mov (.const (.int .i64 0))), .none⟩]) (.seq (.seq (.ops [⟨(.some 12), (.mov (.tmp 1)), .none⟩, ⟨(.some 13), (.lenS (.tmp 12)), .none⟩, ⟨(.some 14), (.mov (.const (.int .i64 0))), .none⟩]) (.block 0 (.loop (.seq (.ops [⟨(.some 15), (.bin .lss (.tmp 14) (.tmp 13)), .none⟩]) (.seq (.cond (.tmp 15) .skip (.exit 0)) (.seq (.block 1 (.seq (.ops [⟨(.some 16), (.mov (.tmp 14)), .none⟩, ⟨(.some 8), (.mov (.tmp 16)), .none⟩]) (.seq (.ops [⟨(.some 17), (.mov (.tmp 1)), .none⟩, ⟨(.some 18), (.mov (.tmp 8)), .none⟩, ⟨(.some 19), (.idxS (.tmp 17) (.tmp 18)), .none⟩, ⟨(.some 20), (.cvI .i64 (.tmp 19)), .none⟩, ⟨(.some 21), (.bin .sub (.tmp 20) (.const (.int .i64 48))), .none⟩, ⟨(.some 9), (.mov (.tmp 21)), .none⟩]) (.seq (.seq (.ops [⟨(.some 22), (.mov (.tmp 9)), .none⟩, ⟨(.some 23), (.bin .neq (.tmp 22) (.const (.int .i64 0))), .none⟩, ⟨(.some 24), (.mov (.tmp 23)), .none⟩, ⟨(.some 25), (.mov (.tmp 9)), (.some (24, true))⟩, ⟨(.some 26), (.bin .neq (.tmp 25) (.const (.int .i64 1))), (.some (24, true))⟩, ⟨(.some 27), (.pick (.tmp 24) (.tmp 26) (.const (.bool false))), .none⟩]) (.cond (.tmp 27) (.seq (.ops [⟨(.some 6), (.mov (.const (.int .i64 3))), .none⟩]) .ret) .skip)) (.seq (.seq (.ops [⟨(.some 28), (.mov (.tmp 0)), .none⟩, ⟨(.some 29), (.nilC (.tmp 28)), .none⟩, ⟨(.some 30), (.fadr 0 (.tmp 29)), .none⟩, ⟨(.some 31), (.ld (.tmp 30)), .none⟩, ⟨(.some 32), (.mov (.tmp 7)), .none⟩, ⟨(.some 33), (.iadr 3 (.tmp 31) (.tmp 32)), .none⟩, ⟨(.some 34), (.fadr 2 (.tmp 33)), .none⟩, ⟨(.some 35), (.ld (.tmp 34)), .none⟩, ⟨(.some 36), (.bin .geq (.tmp 35) (.const (.int .i64 0))), .none⟩]) (.cond (.tmp 36) (.seq (.ops [⟨(.some 6), (.mov (.const (.int .i64 14))), .none⟩]) .ret) .skip)) (.seq (.seq (.ops [⟨(.some 37), (.mov (.tmp 0)), .none⟩, ⟨(.some 38), (.nilC (.tmp 37)), .none⟩, ⟨(.some 39), (.fadr 0 (.tmp 38)), .none⟩, ⟨(.some 40), (.ld (.tmp 39)), .none⟩, ⟨(.some 41), (.mov (.tmp 7)), .none⟩, ⟨(.some 42), (.mov (.tmp 9)), .none⟩, ⟨(.some 43), (.iadr 3 (.tmp 40) (.tmp 41)), .none⟩, ⟨(.some 44), (.fadr 0 (.tmp 43)), .none⟩, ⟨(.some 45), (.iadrA 2 1 (.tmp 44) (.tmp 42)), .none⟩, ⟨(.some 46), (.ld (.tmp 45)), .none⟩, ⟨(.some 47), (.bin .eql (.tmp 46) (.const (.int .i64 0))), .none⟩]) (.cond (.tmp 47) (.seq (.ops [⟨(.some 48), (.mov (.tmp 0)), .none⟩, ⟨(.some 49), (.mov (.tmp 0)), .none⟩, ⟨(.some 50), (.nilC (.tmp 49)), .none⟩, ⟨(.some 51), (.fadr 0 (.tmp 50)), .none⟩, ⟨(.some 52), (.ld (.tmp 51)), .none⟩, ⟨(.some 53), (.build [(.int .i64 0), (.int .i64 0), (.int .i64 0)] [(2, (1, (.const (.int .i64 (-1)))))]), .none⟩, ⟨(.some 54), (.lit 3 [(.tmp 53)]), .none⟩, ⟨(.some 55), (.app 55 3 24 (.tmp 52) (.tmp 54)), .none⟩, ⟨(.some 56), (.nilC (.tmp 48)), .none⟩, ⟨(.some 57), (.fadr 0 (.tmp 56)), .none⟩, ⟨.none, (.st 1 (.tmp 57) (.tmp 55)), .none⟩]) (.draw [(⟨(.some 58), (.mov (.tmp 0)), .none⟩, (false, [])), (⟨(.some 59), (.nilC (.tmp 58)), .none⟩, (false, [])), (⟨(.some 60), (.fadr 0 (.tmp 59)), .none⟩, (false, [])), (⟨(.some 61), (.ld (.tmp 60)), .none⟩, (false, [])), (⟨(.some 62), (.mov (.tmp 7)), .none⟩, (false, [])), (⟨(.some 63), (.mov (.tmp 9)), .none⟩, (false, [])), (⟨(.some 64), (.mov (.tmp 0)), .none⟩, (false, [])), (⟨(.some 65), (.nilC (.tmp 64)), .none⟩, (false, [])), (⟨(.some 66), (.fadr 0 (.tmp 65)), .none⟩, (false, [])), (⟨(.some 67), (.ld (.tmp 66)), .none⟩, (false, [])), (⟨(.some 68), (.len (.tmp 67)), .none⟩, (false, [])), (⟨(.some 69), (.bin .sub (.tmp 68) (.const (.int .i64 1))), .none⟩, (false, [])), (⟨(.some 70), (.iadr 3 (.tmp 61) (.tmp 62)), .none⟩, (false, [])), (⟨(.some 71), (.fadr 0 (.tmp 70)), .none⟩, (false, [])), (⟨(.some 72), (.iadrA 2 1 (.tmp 71) (.tmp 63)), .none⟩, (false, [])), (⟨.none, (.st 1 (.tmp 72) (.tmp 69)), .none⟩, (false, []))])) .skip)) (.ops [⟨(.some 73), (.mov (.tmp 0)), .none⟩, ⟨(.some 74), (.nilC (.tmp 73)), .none⟩, ⟨(.some 75), (.fadr 0 (.tmp 74)), .none⟩, ⟨(.some 76), (.ld (.tmp 75)), .none⟩, ⟨(.some 77), (.mov (.tmp 7)), .none⟩, ⟨(.some 78), (.mov (.tmp 9)), .none⟩, ⟨(.some 79), (.iadr 3 (.tmp 76) (.tmp 77)), .none⟩, ⟨(.some 80), (.fadr 0 (.tmp 79)), .none⟩, ⟨(.some 81), (.iadrA 2 1 (.tmp 80) (.tmp 78)), .none⟩, ⟨(.some 82), (.ld (.tmp 81)), .none⟩, ⟨(.some 7), (.mov (.tmp 82)), .none⟩]))))))) (.ops [⟨(.some 83), (.bin .add (.tmp 14) (.const (.int .i64 1))), .none⟩, ⟨(.some 14), (.mov (.tmp 83)), .none⟩]))))))) (.seq (.seq (.ops [⟨(.some 84), (.mov (.tmp 0)), .none⟩, ⟨(.some 85), (.nilC (.tmp 84)), .none⟩, ⟨(.some 86), (.fadr 0 (.tmp 85)), .none⟩, ⟨(.some 87), (.ld (.tmp 86)), .none⟩, ⟨(.some 88), (.mov (.tmp 7)), .none⟩, ⟨(.some 89), (.iadr 3 (.tmp 87) (.tmp 88)), .none⟩, ⟨(.some 90), (.fadr 2 (.tmp 89)), .none⟩, ⟨(.some 91), (.ld (.tmp 90)), .none⟩, ⟨(.some 92), (.bin .geq (.tmp 91) (.const (.int .i64 0))), .none⟩, ⟨(.some 93), (.mov (.tmp 92)), .none⟩, ⟨(.some 94), (.mov (.tmp 0)), (.some (93, false))⟩, ⟨(.some 95), (.nilC (.tmp 94)), (.some (93, false))⟩, ⟨(.some 96), (.fadr 0 (.tmp 95)), (.some (93, false))⟩, ⟨(.some 97), (.ld (.tmp 96)), (.some (93, false))⟩, ⟨(.some 98), (.mov (.tmp 7)), (.some (93, false))⟩, ⟨(.some 99), (.iadr 3 (.tmp 97) (.tmp 98)), (.some (93, false))⟩, ⟨(.some 100), (.fadr 0 (.tmp 99)), (.some (93, false))⟩, ⟨(.some 101), (.ldn 2 (.tmp 100)), (.some (93, false))⟩, ⟨(.some 102), (.build [(.int .i64 0), (.int .i64 0)] []), (.some (93, false))⟩, ⟨(.some 103), (.eqG [false, false] true (.tmp 101) (.tmp 102)), (.some (93, false))⟩, ⟨(.some 104), (.pick (.tmp 93) (.const (.bool true)) (.tmp 103)), .none⟩]) (.cond (.tmp 104) (.seq (.ops [⟨(.some 6), (.mov (.const (.int .i64 14))), .none⟩]) .ret) .skip)) (.seq (.ops [⟨(.some 105), (.mov (.tmp 0)), .none⟩, ⟨(.some 106), (.nilC (.tmp 105)), .none⟩, ⟨(.some 107), (.fadr 0 (.tmp 106)), .none⟩, ⟨(.some 108), (.ld (.tmp 107)), .none⟩, ⟨(.some 109), (.mov (.tmp 7)), .none⟩, ⟨(.some 110), (.mov (.tmp 2)), .none⟩, ⟨(.some 111), (.iadr 3 (.tmp 108) (.tmp 109)), .none⟩, ⟨(.some 112), (.fadr 2 (.tmp 111)), .none⟩, ⟨.none, (.st 1 (.tmp 112) (.tmp 110)), .none⟩]) (.seq (.ops [⟨(.some 6), (.mov (.const (.int .i64 0))), .none⟩]) .ret))))))), [(6, .none)]⟩
theorem c55 : cmpF Tryd.prog [] [] 55 = some a55 := by kernel_rfl
def ndD (x : Nd) : D := .agg [.c (.int .i64 x.1), .c (.int .i64 x.2.1), .c (.int .i64 x.2.2)]
theorem nds_get {nd : List Nd} {i : Nat} (h : i < nd.length) : (nd.map ndD).getD i default = .agg [.c (.int .i64 (nd.getD i nd0).1), .c (.int .i64 (nd.getD i nd0).2.1), .c (.int .i64 (nd.getD i nd0).2.2)] := by
  simp only [List.getD, List.getElem?_map, List.getElem?_eq_getElem h, Option.map_some, Option.getD_some, ndD]
theorem nds_app (nd : List Nd) : nd.map ndD ++ [.agg [.c (.int .i64 0), .c (.int .i64 0), .c (.int .i64 (-1))]] = (nd ++ [nd0]).map ndD := by simp [ndD, nd0]
theorem nds_set (nd : List Nd) (i : Nat) (x : Nd) : (nd.map ndD).set i (.agg [.c (.int .i64 x.1), .c (.int .i64 x.2.1), .c (.int .i64 x.2.2)]) = (nd.set i x).map ndD := by rw [List.map_set]; rfl
theorem nds_getS {nd : List Nd} {i : Nat} (h : i < nd.length) (x : Nd) : ((nd.set i x).map ndD).getD i default = .agg [.c (.int .i64 x.1), .c (.int .i64 x.2.1), .c (.int .i64 x.2.2)] := by
  rw [nds_get (by rw [List.length_set]; exact h)]
  simp [List.getD, h]
theorem nds_getA {nd : List Nd} {i : Nat} (h : i < nd.length) : ((nd ++ [nd0]).map ndD).getD i default = (nd.map ndD).getD i default := by
  rw [nds_get h, nds_get (by rw [List.length_append]; omega)]
  simp only [List.getD, List.getElem?_append_left h]
theorem upd3_0 (a b c v : Value) : D.upd (.agg [.c a, .c b, .c c]) 3 0 1 (.c v) = .agg [.c v, .c b, .c c] := by simp [D.upd, D.cells, spl]
theorem upd3_1 (a b c v : Value) : D.upd (.agg [.c a, .c b, .c c]) 3 1 1 (.c v) = .agg [.c a, .c v, .c c] := by simp [D.upd, D.cells, spl]
theorem upd3_2 (a b c v : Value) : D.upd (.agg [.c a, .c b, .c c]) 3 2 1 (.c v) = .agg [.c a, .c b, .c v] := by simp [D.upd, D.cells, spl]
theorem nds_len (nd : List Nd) : (nd.map ndD).length = nd.length := List.length_map ..
theorem lay_m (mean : Nat) (L : List Int) (hL : Bits L) (hne : L ≠ []) (nd out : List Nd) (h : layS mean L nd 0 = some out) (hlen : nd.length + L.length ≤ 100000) (hnd : 1 ≤ nd.length) (ms ws : D) : GivM Tryd.prog 53 [.ptr 2000000 0, .d (.c (.string (strOfNums (txt L)))), .d (.c (.int .i64 mean))] [(2000000, .box [.sl 1000000 3 0 nd.length, .d ms, .d ws]), (1000000, .row 3 (nd.map ndD))] (.d (.c (.int .i64 0))) [(2000000, .box [.sl 1000000 3 0 out.length, .d ms, .d ws]), (1000000, .row 3 (out.map ndD))] := by
  have hb := txt_bytes hL
  have hl := txt_len L
  have hLb : L.length ≤ 100000 := by omega
  have h0 : 0 < L.length := by
    cases L with
    | nil => exact absurd rfl hne
    | cons x l => simp
  have hsz : ((strOfNums (txt L)).toList == (strOfNums []).toList) = false := by
    rw [str_beq hb (fun z hz => by cases hz)]
    refine decide_eq_false fun e => ?_
    have := congrArg List.length e
    rw [hl, List.length_nil] at this
    omega
  refine GivM.of mixed c53 (Nat.le_of_ble_eq_true rfl) rfl rfl ?_
  simp -dsimp -implicitDefEqProofs (disch := first | omega | (simp only [List.length_append, List.length_cons, List.length_nil, List.length_take, List.length_drop]; omega)) only [a53, hl, hsz, ↓aPre, aPost, oneW, allOne, retV, retVA, simprocAttr]
  refine loop_of (fun s => ∃ (k at_ : Nat) (nd : List Nd), k ≤ L.length ∧ layS mean (L.drop k) nd at_ = some out ∧ nd.length + (L.length - k) ≤ 100000 ∧ at_ < nd.length ∧ s.tm 0 = .ptr 2000000 0 ∧ s.tm 1 = .d (.c (.string (strOfNums (txt L)))) ∧ s.tm 2 = .d (.c (.int .i64 mean)) ∧ s.tm 7 = .d (.c (.int .i64 at_)) ∧ s.tm 13 = .d (.c (.int .i64 L.length)) ∧ s.tm 14 = .d (.c (.int .i64 k)) ∧ s.hp 2000000 = some (.box [.sl 1000000 3 0 nd.length, .d ms, .d ws]) ∧ s.hp 1000000 = some (.row 3 (nd.map ndD))) (fun s => L.length - (avN (s.tm 14)).toNat) ?_ ?_
  · refine ⟨0, 0, nd, Nat.zero_le _, by rw [List.drop_zero]; exact h, by omega, by omega, ?_⟩
    simp -dsimp -implicitDefEqProofs (disch := first | omega | (simp only [List.length_append, List.length_cons, List.length_nil, List.length_take, List.length_drop]; omega)) only [Int.natCast_zero, ↓aPre, aPost, oneW, allOne, retV, retVA, simprocAttr]
  clear h hlen hnd nd
  rintro s ⟨k, at_, nd, hk, h, hlen, hat, hs⟩
  have hnl := nds_len nd
  have hng := nds_get hat
  obtain ⟨x, hx⟩ : ∃ x, x = nd.getD at_ nd0 := ⟨_, rfl⟩
  obtain ⟨x0, x1, xm⟩ := x
  rw [← hx] at hng
  by_cases hlt : k < L.length
  · have hg := txt_get hlt
    have hz := hL.get k
    have hd : L.drop k = L.getD k 0 :: L.drop (k + 1) := by
      rw [List.drop_eq_getElem_cons hlt]
      simp only [List.getD, List.getElem?_eq_getElem hlt, Option.getD_some]
    obtain ⟨z, hze⟩ : ∃ z, z = L.getD k 0 := ⟨_, rfl⟩
    rw [← hze] at hg hz hd
    rw [hd, layS, ← hx] at h
    have e1 : 48 + z - 48 = z := by omega
    by_cases c1 : 0 ≤ xm
    · rw [if_pos c1] at h
      cases h
    rw [if_neg c1] at h
    have c1' : ¬ xm ≥ 0 := c1
    have e2 : (nd.length : Int) + 1 - 1 = nd.length := by omega
    rcases hz with rfl | rfl
    · simp only [nxN, stN, if_pos] at h
      by_cases c2 : x0 = 0
      · subst c2
        rw [if_pos rfl] at h
        have hgA := nds_getA hat
        rw [hng] at hgA
        have hgS := nds_getS (nd := nd ++ [nd0]) (i := at_) (by rw [List.length_append]; omega) ((nd.length : Int), x1, xm)
        have hset := nds_set (nd ++ [nd0]) at_ ((nd.length : Int), x1, xm)
        have hnl1 := nds_len (nd ++ [nd0])
        have hnl2 := nds_len ((nd ++ [nd0]).set at_ ((nd.length : Int), x1, xm))
        simp -dsimp -implicitDefEqProofs (disch := first | omega | (simp only [List.length_append, List.length_cons, List.length_nil, List.length_take, List.length_drop]; omega)) only [hs, str_get hb, hl, hg, hng, hnl, c1', ibne_t, ibne_f, ibeq_t, nds_app, hgA, upd3_0, upd3_1, e2, hset, hgS, hnl1, hnl2, ↓aPre, aPost, oneW, allOne, retV, retVA, simprocAttr]
        refine round_of ⟨k + 1, nd.length, (nd ++ [nd0]).set at_ ((nd.length : Int), x1, xm), by omega, h, ?_, ?_, ?_⟩ ?_
        · rw [List.length_set, List.length_append, List.length_singleton]; omega
        · rw [List.length_set, List.length_append, List.length_singleton]; omega
        · simp -dsimp -implicitDefEqProofs (disch := first | omega | (simp only [List.length_append, List.length_cons, List.length_nil, List.length_take, List.length_drop]; omega)) only [hs, nds_app, hnl, hset, hgA, upd3_0, upd3_1, e2, ↓aPre, aPost, oneW, allOne, retV, retVA, simprocAttr]
        · simp -dsimp -implicitDefEqProofs (disch := first | omega | (simp only [List.length_append, List.length_cons, List.length_nil, List.length_take, List.length_drop]; omega)) only [hs, ↓aPre, aPost, oneW, allOne, retV, retVA, simprocAttr]
          omega
      · rw [if_neg c2] at h
        by_cases c3 : 0 < x0 ∧ x0 < nd.length
        · rw [if_pos c3] at h
          simp -dsimp -implicitDefEqProofs (disch := first | omega | (simp only [List.length_append, List.length_cons, List.length_nil, List.length_take, List.length_drop]; omega)) only [hs, str_get hb, hl, hg, hng, hnl, c1', ibne_t, ibne_f, ibeq_f c2, ↓aPre, aPost, oneW, allOne, retV, retVA, simprocAttr]
          have e4 : ((x0.toNat : Nat) : Int) = x0 := by omega
          refine round_of ⟨k + 1, x0.toNat, nd, by omega, h, by omega, by omega, ?_⟩ ?_
          · simp -dsimp -implicitDefEqProofs (disch := first | omega | (simp only [List.length_append, List.length_cons, List.length_nil, List.length_take, List.length_drop]; omega)) only [hs, e4, ↓aPre, aPost, oneW, allOne, retV, retVA, simprocAttr]
          · simp -dsimp -implicitDefEqProofs (disch := first | omega | (simp only [List.length_append, List.length_cons, List.length_nil, List.length_take, List.length_drop]; omega)) only [hs, ↓aPre, aPost, oneW, allOne, retV, retVA, simprocAttr]
            omega
        · rw [if_neg c3] at h
          cases h
    · simp only [nxN, stN, show ¬ (1 : Int) = 0 by decide, if_false] at h
      by_cases c2 : x1 = 0
      · subst c2
        rw [if_pos rfl] at h
        have hgA := nds_getA hat
        rw [hng] at hgA
        have hgS := nds_getS (nd := nd ++ [nd0]) (i := at_) (by rw [List.length_append]; omega) (x0, (nd.length : Int), xm)
        have hset := nds_set (nd ++ [nd0]) at_ (x0, (nd.length : Int), xm)
        have hnl1 := nds_len (nd ++ [nd0])
        have hnl2 := nds_len ((nd ++ [nd0]).set at_ (x0, (nd.length : Int), xm))
        simp -dsimp -implicitDefEqProofs (disch := first | omega | (simp only [List.length_append, List.length_cons, List.length_nil, List.length_take, List.length_drop]; omega)) only [hs, str_get hb, hl, hg, hng, hnl, c1', ibne_t, ibne_f, ibeq_t, nds_app, hgA, upd3_0, upd3_1, e2, hset, hgS, hnl1, hnl2, ↓aPre, aPost, oneW, allOne, retV, retVA, simprocAttr]
        refine round_of ⟨k + 1, nd.length, (nd ++ [nd0]).set at_ (x0, (nd.length : Int), xm), by omega, h, ?_, ?_, ?_⟩ ?_
        · rw [List.length_set, List.length_append, List.length_singleton]; omega
        · rw [List.length_set, List.length_append, List.length_singleton]; omega
        · simp -dsimp -implicitDefEqProofs (disch := first | omega | (simp only [List.length_append, List.length_cons, List.length_nil, List.length_take, List.length_drop]; omega)) only [hs, nds_app, hnl, hset, hgA, upd3_0, upd3_1, e2, ↓aPre, aPost, oneW, allOne, retV, retVA, simprocAttr]
        · simp -dsimp -implicitDefEqProofs (disch := first | omega | (simp only [List.length_append, List.length_cons, List.length_nil, List.length_take, List.length_drop]; omega)) only [hs, ↓aPre, aPost, oneW, allOne, retV, retVA, simprocAttr]
          omega
      · rw [if_neg c2] at h
        by_cases c3 : 0 < x1 ∧ x1 < nd.length
        · rw [if_pos c3] at h
          simp -dsimp -implicitDefEqProofs (disch := first | omega | (simp only [List.length_append, List.length_cons, List.length_nil, List.length_take, List.length_drop]; omega)) only [hs, str_get hb, hl, hg, hng, hnl, c1', ibne_t, ibne_f, ibeq_f c2, ↓aPre, aPost, oneW, allOne, retV, retVA, simprocAttr]
          have e4 : ((x1.toNat : Nat) : Int) = x1 := by omega
          refine round_of ⟨k + 1, x1.toNat, nd, by omega, h, by omega, by omega, ?_⟩ ?_
          · simp -dsimp -implicitDefEqProofs (disch := first | omega | (simp only [List.length_append, List.length_cons, List.length_nil, List.length_take, List.length_drop]; omega)) only [hs, e4, ↓aPre, aPost, oneW, allOne, retV, retVA, simprocAttr]
          · simp -dsimp -implicitDefEqProofs (disch := first | omega | (simp only [List.length_append, List.length_cons, List.length_nil, List.length_take, List.length_drop]; omega)) only [hs, ↓aPre, aPost, oneW, allOne, retV, retVA, simprocAttr]
            omega
        · rw [if_neg c3] at h
          cases h
  · obtain rfl : k = L.length := by omega
    rw [List.drop_length, layS, ← hx] at h
    have hset := nds_set nd at_ (x0, x1, (mean : Int))
    split at h
    · cases h
    rename_i c
    have c1 : ¬ xm ≥ 0 := fun e => c (.inl e)
    have c2 : x0 = 0 := Decidable.byContradiction fun e => c (.inr (.inl e))
    have c3 : x1 = 0 := Decidable.byContradiction fun e => c (.inr (.inr e))
    subst c2 c3
    simp only [Option.some.injEq] at h
    subst h
    simp -dsimp -implicitDefEqProofs (disch := first | omega | (simp only [List.length_append, List.length_cons, List.length_nil, List.length_take, List.length_drop]; omega)) only [hs, hl, hng, hnl, c1, Bool.and_self, upd3_2, hset, ↓aPre, aPost, oneW, allOne, retV, retVA, simprocAttr]
    refine end_of rfl ?_
    simp -dsimp -implicitDefEqProofs (disch := first | omega | (simp only [List.length_append, List.length_cons, List.length_nil, List.length_take, List.length_drop]; omega)) only [hs, hng, upd3_2, hset, List.length_set, ↓aPre, aPost, oneW, allOne, retV, retVA, simprocAttr]
end Go.Proofs.YtihgplkfikpgbaaDoor
namespace Go.Proofs.YtihgplkfikpgbaaDoor
open Go.Eng Go.RowKit
theorem lay2_m (mean : Nat) (L : List Int) (hL : Bits L) (hne : L ≠ []) (nd out : List Nd) (h : layS mean L nd 0 = some out) (hlen : nd.length + L.length ≤ 100000) (hnd : 1 ≤ nd.length) (ms ws : D) : GivM Tryd.prog 55 [.ptr 2000000 0, .d (.c (.string (strOfNums (txt L)))), .d (.c (.int .i64 mean))] [(2000000, .box [.sl 1000000 3 0 nd.length, .d ms, .d ws]), (1000000, .row 3 (nd.map ndD))] (.d (.c (.int .i64 0))) [(2000000, .box [.sl 1000000 3 0 out.length, .d ms, .d ws]), (1000000, .row 3 (out.map ndD))] := by
  have hb := txt_bytes hL
  have hl := txt_len L
  have hLb : L.length ≤ 100000 := by omega
  have h0 : 0 < L.length := by
    cases L with
    | nil => exact absurd rfl hne
    | cons x l => simp
  have hsz : ((strOfNums (txt L)).toList == (strOfNums []).toList) = false := by
    rw [str_beq hb (fun z hz => by cases hz)]
    refine decide_eq_false fun e => ?_
    have := congrArg List.length e
    rw [hl, List.length_nil] at this
    omega
  refine GivM.of mixed c55 (Nat.le_of_ble_eq_true rfl) rfl rfl ?_
  simp -dsimp -implicitDefEqProofs (disch := first | omega | (simp only [List.length_append, List.length_cons, List.length_nil, List.length_take, List.length_drop]; omega)) only [a55, hl, hsz, ↓aPre, aPost, oneW, allOne, retV, retVA, simprocAttr]
  refine loop_of (fun s => ∃ (k at_ : Nat) (nd : List Nd), k ≤ L.length ∧ layS mean (L.drop k) nd at_ = some out ∧ nd.length + (L.length - k) ≤ 100000 ∧ at_ < nd.length ∧ s.tm 0 = .ptr 2000000 0 ∧ s.tm 1 = .d (.c (.string (strOfNums (txt L)))) ∧ s.tm 2 = .d (.c (.int .i64 mean)) ∧ s.tm 7 = .d (.c (.int .i64 at_)) ∧ s.tm 13 = .d (.c (.int .i64 L.length)) ∧ s.tm 14 = .d (.c (.int .i64 k)) ∧ s.hp 2000000 = some (.box [.sl 1000000 3 0 nd.length, .d ms, .d ws]) ∧ s.hp 1000000 = some (.row 3 (nd.map ndD))) (fun s => L.length - (avN (s.tm 14)).toNat) ?_ ?_
  · refine ⟨0, 0, nd, Nat.zero_le _, by rw [List.drop_zero]; exact h, by omega, by omega, ?_⟩
    simp -dsimp -implicitDefEqProofs (disch := first | omega | (simp only [List.length_append, List.length_cons, List.length_nil, List.length_take, List.length_drop]; omega)) only [Int.natCast_zero, ↓aPre, aPost, oneW, allOne, retV, retVA, simprocAttr]
  clear h hlen hnd nd
  rintro s ⟨k, at_, nd, hk, h, hlen, hat, hs⟩
  have hnl := nds_len nd
  have hng := nds_get hat
  obtain ⟨x, hx⟩ : ∃ x, x = nd.getD at_ nd0 := ⟨_, rfl⟩
  obtain ⟨x0, x1, xm⟩ := x
  rw [← hx] at hng
  by_cases hlt : k < L.length
  · have hg := txt_get hlt
    have hz := hL.get k
    have hd : L.drop k = L.getD k 0 :: L.drop (k + 1) := by
      rw [List.drop_eq_getElem_cons hlt]
      simp only [List.getD, List.getElem?_eq_getElem hlt, Option.getD_some]
    obtain ⟨z, hze⟩ : ∃ z, z = L.getD k 0 := ⟨_, rfl⟩
    rw [← hze] at hg hz hd
    rw [hd, layS, ← hx] at h
    have e1 : 48 + z - 48 = z := by omega
    by_cases c1 : 0 ≤ xm
    · rw [if_pos c1] at h
      cases h
    rw [if_neg c1] at h
    have c1' : ¬ xm ≥ 0 := c1
    have e2 : (nd.length : Int) + 1 - 1 = nd.length := by omega
    rcases hz with rfl | rfl
    · simp only [nxN, stN, if_pos] at h
      by_cases c2 : x0 = 0
      · subst c2
        rw [if_pos rfl] at h
        have hgA := nds_getA hat
        rw [hng] at hgA
        have hgS := nds_getS (nd := nd ++ [nd0]) (i := at_) (by rw [List.length_append]; omega) ((nd.length : Int), x1, xm)
        have hset := nds_set (nd ++ [nd0]) at_ ((nd.length : Int), x1, xm)
        have hnl1 := nds_len (nd ++ [nd0])
        have hnl2 := nds_len ((nd ++ [nd0]).set at_ ((nd.length : Int), x1, xm))
        simp -dsimp -implicitDefEqProofs (disch := first | omega | (simp only [List.length_append, List.length_cons, List.length_nil, List.length_take, List.length_drop]; omega)) only [hs, str_get hb, hl, hg, hng, hnl, c1', ibne_t, ibne_f, ibeq_t, nds_app, hgA, upd3_0, upd3_1, e2, hset, hgS, hnl1, hnl2, ↓aPre, aPost, oneW, allOne, retV, retVA, simprocAttr]
        refine round_of ⟨k + 1, nd.length, (nd ++ [nd0]).set at_ ((nd.length : Int), x1, xm), by omega, h, ?_, ?_, ?_⟩ ?_
        · rw [List.length_set, List.length_append, List.length_singleton]; omega
        · rw [List.length_set, List.length_append, List.length_singleton]; omega
        · simp -dsimp -implicitDefEqProofs (disch := first | omega | (simp only [List.length_append, List.length_cons, List.length_nil, List.length_take, List.length_drop]; omega)) only [hs, nds_app, hnl, hset, hgA, upd3_0, upd3_1, e2, ↓aPre, aPost, oneW, allOne, retV, retVA, simprocAttr]
        · simp -dsimp -implicitDefEqProofs (disch := first | omega | (simp only [List.length_append, List.length_cons, List.length_nil, List.length_take, List.length_drop]; omega)) only [hs, ↓aPre, aPost, oneW, allOne, retV, retVA, simprocAttr]
          omega
      · rw [if_neg c2] at h
        by_cases c3 : 0 < x0 ∧ x0 < nd.length
        · rw [if_pos c3] at h
          simp -dsimp -implicitDefEqProofs (disch := first | omega | (simp only [List.length_append, List.length_cons, List.length_nil, List.length_take, List.length_drop]; omega)) only [hs, str_get hb, hl, hg, hng, hnl, c1', ibne_t, ibne_f, ibeq_f c2, ↓aPre, aPost, oneW, allOne, retV, retVA, simprocAttr]
          have e4 : ((x0.toNat : Nat) : Int) = x0 := by omega
          refine round_of ⟨k + 1, x0.toNat, nd, by omega, h, by omega, by omega, ?_⟩ ?_
          · simp -dsimp -implicitDefEqProofs (disch := first | omega | (simp only [List.length_append, List.length_cons, List.length_nil, List.length_take, List.length_drop]; omega)) only [hs, e4, ↓aPre, aPost, oneW, allOne, retV, retVA, simprocAttr]
          · simp -dsimp -implicitDefEqProofs (disch := first | omega | (simp only [List.length_append, List.length_cons, List.length_nil, List.length_take, List.length_drop]; omega)) only [hs, ↓aPre, aPost, oneW, allOne, retV, retVA, simprocAttr]
            omega
        · rw [if_neg c3] at h
          cases h
    · simp only [nxN, stN, show ¬ (1 : Int) = 0 by decide, if_false] at h
      by_cases c2 : x1 = 0
      · subst c2
        rw [if_pos rfl] at h
        have hgA := nds_getA hat
        rw [hng] at hgA
        have hgS := nds_getS (nd := nd ++ [nd0]) (i := at_) (by rw [List.length_append]; omega) (x0, (nd.length : Int), xm)
        have hset := nds_set (nd ++ [nd0]) at_ (x0, (nd.length : Int), xm)
        have hnl1 := nds_len (nd ++ [nd0])
        have hnl2 := nds_len ((nd ++ [nd0]).set at_ (x0, (nd.length : Int), xm))
        simp -dsimp -implicitDefEqProofs (disch := first | omega | (simp only [List.length_append, List.length_cons, List.length_nil, List.length_take, List.length_drop]; omega)) only [hs, str_get hb, hl, hg, hng, hnl, c1', ibne_t, ibne_f, ibeq_t, nds_app, hgA, upd3_0, upd3_1, e2, hset, hgS, hnl1, hnl2, ↓aPre, aPost, oneW, allOne, retV, retVA, simprocAttr]
        refine round_of ⟨k + 1, nd.length, (nd ++ [nd0]).set at_ (x0, (nd.length : Int), xm), by omega, h, ?_, ?_, ?_⟩ ?_
        · rw [List.length_set, List.length_append, List.length_singleton]; omega
        · rw [List.length_set, List.length_append, List.length_singleton]; omega
        · simp -dsimp -implicitDefEqProofs (disch := first | omega | (simp only [List.length_append, List.length_cons, List.length_nil, List.length_take, List.length_drop]; omega)) only [hs, nds_app, hnl, hset, hgA, upd3_0, upd3_1, e2, ↓aPre, aPost, oneW, allOne, retV, retVA, simprocAttr]
        · simp -dsimp -implicitDefEqProofs (disch := first | omega | (simp only [List.length_append, List.length_cons, List.length_nil, List.length_take, List.length_drop]; omega)) only [hs, ↓aPre, aPost, oneW, allOne, retV, retVA, simprocAttr]
          omega
      · rw [if_neg c2] at h
        by_cases c3 : 0 < x1 ∧ x1 < nd.length
        · rw [if_pos c3] at h
          simp -dsimp -implicitDefEqProofs (disch := first | omega | (simp only [List.length_append, List.length_cons, List.length_nil, List.length_take, List.length_drop]; omega)) only [hs, str_get hb, hl, hg, hng, hnl, c1', ibne_t, ibne_f, ibeq_f c2, ↓aPre, aPost, oneW, allOne, retV, retVA, simprocAttr]
          have e4 : ((x1.toNat : Nat) : Int) = x1 := by omega
          refine round_of ⟨k + 1, x1.toNat, nd, by omega, h, by omega, by omega, ?_⟩ ?_
          · simp -dsimp -implicitDefEqProofs (disch := first | omega | (simp only [List.length_append, List.length_cons, List.length_nil, List.length_take, List.length_drop]; omega)) only [hs, e4, ↓aPre, aPost, oneW, allOne, retV, retVA, simprocAttr]
          · simp -dsimp -implicitDefEqProofs (disch := first | omega | (simp only [List.length_append, List.length_cons, List.length_nil, List.length_take, List.length_drop]; omega)) only [hs, ↓aPre, aPost, oneW, allOne, retV, retVA, simprocAttr]
            omega
        · rw [if_neg c3] at h
          cases h
  · obtain rfl : k = L.length := by omega
    rw [List.drop_length, layS, ← hx] at h
    have hset := nds_set nd at_ (x0, x1, (mean : Int))
    split at h
    · cases h
    rename_i c
    have c1 : ¬ xm ≥ 0 := fun e => c (.inl e)
    have c2 : x0 = 0 := Decidable.byContradiction fun e => c (.inr (.inl e))
    have c3 : x1 = 0 := Decidable.byContradiction fun e => c (.inr (.inr e))
    subst c2 c3
    simp only [Option.some.injEq] at h
    subst h
    simp -dsimp -implicitDefEqProofs (disch := first | omega | (simp only [List.length_append, List.length_cons, List.length_nil, List.length_take, List.length_drop]; omega)) only [hs, hl, hng, hnl, c1, Bool.and_self, upd3_2, hset, ↓aPre, aPost, oneW, allOne, retV, retVA, simprocAttr]
    refine end_of rfl ?_
    simp -dsimp -implicitDefEqProofs (disch := first | omega | (simp only [List.length_append, List.length_cons, List.length_nil, List.length_take, List.length_drop]; omega)) only [hs, hng, upd3_2, hset, List.length_set, ↓aPre, aPost, oneW, allOne, retV, retVA, simprocAttr]
end Go.Proofs.YtihgplkfikpgbaaDoor
