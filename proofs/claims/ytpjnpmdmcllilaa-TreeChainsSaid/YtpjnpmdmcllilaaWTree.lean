/- The program goes through directories that hang together, and those below them. No condition but what each says. -/
import Derived.Test.YtpjnpmdmcllilaaLTree2
import Derived.Test.YtpjnpmdmcllilaaWGh
set_option linter.unusedSimpArgs false
set_option linter.unusedVariables false
set_option maxRecDepth 8000
set_option maxHeartbeats 16000000
namespace Go.Proofs.Ytpjnpmdmcllilaa
open Go.Eng Go.RowKit
def a5 : AFn := ⟨41, (.seq (.ops [⟨(.some 0), (.mov (.const (.bool false))), .none⟩]) (.seq (.ops [⟨(.some 6), (.lit 1 [(.const (.int .u8 0)), (.const (.int .u8 0)), (.const (.int .u8 0)), (.const (.int .u8 0)), (.const (.int .u8 0)), (.const (.int .u8 0)), (.const (.int .u8 0)), (.const (.int .u8 0)), (.const (.int .u8 0)), (.const (.int .u8 0)), (.const (.int .u8 0)), (.const (.int .u8 0)), (.const (.int .u8 0)), (.const (.int .u8 0))]), .none⟩, ⟨(.some 7), (.build [(.bool false), (.bool false), (.int .u64 0)] [(2, (1, (.const (.int .u64 8))))]), .none⟩, ⟨(.some 8), (.call 8 6 [(.tmp 6), (.tmp 7), (.const (.int .i64 9)), (.const (.int .i64 9))]), .none⟩, ⟨(.some 5), (.mov (.tmp 8)), .none⟩, ⟨(.some 9), (.ext (.tmp 5) 0), .none⟩, ⟨(.some 10), (.ext (.tmp 5) 1), .none⟩, ⟨(.some 1), (.mov (.tmp 9)), .none⟩, ⟨(.some 2), (.mov (.tmp 10)), .none⟩]) (.seq (.ops [⟨(.some 12), (.mov (.tmp 1)), .none⟩, ⟨(.some 13), (.call 13 9 [(.tmp 12), (.const (.int .i64 0))]), .none⟩, ⟨(.some 11), (.mov (.tmp 13)), .none⟩, ⟨(.some 14), (.ext (.tmp 11) 0), .none⟩, ⟨(.some 15), (.ext (.tmp 11) 1), .none⟩, ⟨(.some 3), (.mov (.tmp 14)), .none⟩, ⟨(.some 4), (.mov (.tmp 15)), .none⟩]) (.seq (.ops [⟨(.some 16), (.mov (.tmp 2)), .none⟩, ⟨(.some 17), (.bin .eql (.tmp 16) (.const (.int .i64 0))), .none⟩, ⟨(.some 18), (.mov (.tmp 17)), .none⟩, ⟨(.some 19), (.mov (.tmp 4)), (.some (18, true))⟩, ⟨(.some 20), (.bin .eql (.tmp 19) (.const (.int .i64 0))), (.some (18, true))⟩, ⟨(.some 21), (.pick (.tmp 18) (.tmp 20) (.const (.bool false))), .none⟩, ⟨(.some 22), (.mov (.tmp 21)), .none⟩, ⟨(.some 23), (.mov (.tmp 1)), (.some (22, true))⟩, ⟨(.some 24), (.len (.tmp 23)), (.some (22, true))⟩, ⟨(.some 25), (.bin .eql (.tmp 24) (.const (.int .i64 1))), (.some (22, true))⟩, ⟨(.some 26), (.pick (.tmp 22) (.tmp 25) (.const (.bool false))), .none⟩, ⟨(.some 27), (.mov (.tmp 26)), .none⟩, ⟨(.some 28), (.mov (.tmp 1)), (.some (27, true))⟩, ⟨(.some 29), (.iadr 5 (.tmp 28) (.const (.int .i64 0))), (.some (27, true))⟩, ⟨(.some 30), (.fadr 1 (.tmp 29)), (.some (27, true))⟩, ⟨(.some 31), (.ld (.tmp 30)), (.some (27, true))⟩, ⟨(.some 32), (.bin .eql (.tmp 31) (.const (.int .i64 (-1)))), (.some (27, true))⟩, ⟨(.some 33), (.pick (.tmp 27) (.tmp 32) (.const (.bool false))), .none⟩, ⟨(.some 34), (.mov (.tmp 33)), .none⟩, ⟨(.some 35), (.mov (.tmp 3)), (.some (34, true))⟩, ⟨(.some 36), (.len (.tmp 35)), (.some (34, true))⟩, ⟨(.some 37), (.bin .eql (.tmp 36) (.const (.int .i64 1))), (.some (34, true))⟩, ⟨(.some 38), (.pick (.tmp 34) (.tmp 37) (.const (.bool false))), .none⟩, ⟨(.some 39), (.mov (.tmp 38)), .none⟩, ⟨(.some 40), (.pick (.tmp 39) (.const (.bool true)) (.const (.bool false))), .none⟩, ⟨(.some 0), (.mov (.tmp 40)), .none⟩]) .ret)))), [(0, .none)]⟩
theorem c5 : cmpF Try.prog [] [] 5 = some a5 := by kernel_rfl
def a6 : AFn := ⟨30, (.seq (.ops [⟨(.some 5), (.box 5 3 (.tmp 1)), .none⟩, ⟨(.some 8), (.mov (.const (.slice .none 0 0))), .none⟩, ⟨(.some 9), (.mov (.const (.int .i64 0))), .none⟩]) (.seq (.ops [⟨(.some 12), (.mov (.tmp 0)), .none⟩, ⟨(.some 13), (.ldn 3 (.tmp 5)), .none⟩, ⟨(.some 14), (.mov (.tmp 2)), .none⟩, ⟨(.some 15), (.mov (.tmp 3)), .none⟩, ⟨(.some 16), (.mkm 16 .u64), .none⟩, ⟨(.some 17), (.build [(.slice .none 0 0), (.bool false), (.bool false), (.int .u64 0), (.int .i64 0), (.int .i64 0), (.map .none), (.slice .none 0 0)] [(0, (1, (.tmp 12))), (1, (3, (.tmp 13))), (4, (1, (.tmp 14))), (5, (1, (.tmp 15))), (6, (1, (.tmp 16)))]), .none⟩, ⟨(.some 18), (.box 18 8 (.tmp 17)), .none⟩, ⟨(.some 10), (.mov (.tmp 18)), .none⟩]) (.seq (.seq (.ops [⟨(.some 19), (.mov (.tmp 10)), .none⟩, ⟨(.some 20), (.fadr 2 (.tmp 5)), .none⟩, ⟨(.some 21), (.ld (.tmp 20)), .none⟩, ⟨(.some 22), (.callm 11 [(.tmp 19), (.tmp 21), (.const (.int .i64 0)), (.const (.int .i64 (-1)))]), .none⟩, ⟨(.some 11), (.mov (.tmp 22)), .none⟩]) (.seq (.ops [⟨(.some 23), (.mov (.tmp 11)), .none⟩, ⟨(.some 24), (.bin .neq (.tmp 23) (.const (.int .i64 0))), .none⟩]) (.cond (.tmp 24) (.seq (.ops [⟨(.some 25), (.mov (.tmp 11)), .none⟩, ⟨(.some 8), (.mov (.const (.slice .none 0 0))), .none⟩, ⟨(.some 9), (.mov (.tmp 25)), .none⟩]) .ret) .skip))) (.seq (.ops [⟨(.some 26), (.mov (.tmp 10)), .none⟩, ⟨(.some 27), (.nilC (.tmp 26)), .none⟩, ⟨(.some 28), (.fadr 7 (.tmp 27)), .none⟩, ⟨(.some 29), (.ld (.tmp 28)), .none⟩, ⟨(.some 8), (.mov (.tmp 29)), .none⟩, ⟨(.some 9), (.mov (.const (.int .i64 0))), .none⟩]) .ret)))), [(8, .none), (9, .none)]⟩
theorem c6 : cmpF Try.prog [3000011] [] 6 = some a6 := by kernel_rfl
def a7 : AFn := ⟨149, (.seq (.ops [⟨(.some 5), (.box 5 3 (.tmp 1)), .none⟩, ⟨(.some 8), (.mov (.const (.slice .none 0 0))), .none⟩, ⟨(.some 9), (.mov (.const (.int .i64 0))), .none⟩]) (.seq (.ops [⟨(.some 20), (.fadr 2 (.tmp 5)), .none⟩, ⟨(.some 21), (.ld (.tmp 20)), .none⟩, ⟨(.some 22), (.build [(.int .u64 0), (.int .i64 0), (.int .i64 0)] [(0, (1, (.tmp 21))), (1, (1, (.const (.int .i64 0)))), (2, (1, (.const (.int .i64 (-1)))))]), .none⟩, ⟨(.some 23), (.lit 3 [(.tmp 22)]), .none⟩, ⟨(.some 10), (.mov (.tmp 23)), .none⟩]) (.seq (.ops [⟨(.some 11), (.mov (.const (.slice .none 0 0))), .none⟩]) (.seq (.block 0 (.loop (.seq (.seq (.ops [⟨(.some 24), (.mov (.tmp 10)), .none⟩, ⟨(.some 25), (.len (.tmp 24)), .none⟩, ⟨(.some 26), (.bin .gtr (.tmp 25) (.const (.int .i64 0))), .none⟩]) (.cond (.tmp 26) .skip (.exit 0))) (.block 1 (.seq (.ops [⟨(.some 27), (.mov (.tmp 10)), .none⟩, ⟨(.some 28), (.iadr 3 (.tmp 27) (.const (.int .i64 0))), .none⟩, ⟨(.some 29), (.ldn 3 (.tmp 28)), .none⟩, ⟨(.some 12), (.alloc 12 [(.int .u64 0), (.int .i64 0), (.int .i64 0)]), .none⟩, ⟨.none, (.st 3 (.tmp 12) (.tmp 29)), .none⟩]) (.seq (.ops [⟨(.some 30), (.mov (.tmp 10)), .none⟩, ⟨(.some 31), (.slc 3 (.tmp 30) (.some (.const (.int .i64 1))) .none), .none⟩, ⟨(.some 10), (.mov (.tmp 31)), .none⟩]) (.seq (.seq (.ops [⟨(.some 32), (.fadr 0 (.tmp 12)), .none⟩, ⟨(.some 33), (.ld (.tmp 32)), .none⟩, ⟨(.some 34), (.bin .eql (.tmp 33) (.const (.int .u64 0))), .none⟩]) (.cond (.tmp 34) (.exit 1) .skip)) (.seq (.seq (.ops [⟨(.some 13), (.mov (.const (.int .i64 0))), .none⟩]) (.block 2 (.loop (.seq (.seq (.ops [⟨(.some 35), (.mov (.tmp 13)), .none⟩, ⟨(.some 36), (.mov (.tmp 11)), .none⟩, ⟨(.some 37), (.len (.tmp 36)), .none⟩, ⟨(.some 38), (.bin .lss (.tmp 35) (.tmp 37)), .none⟩]) (.cond (.tmp 38) .skip (.exit 2))) (.seq (.block 3 (.seq (.draw [(⟨(.some 41), (.mov (.tmp 11)), .none⟩, (false, [])), (⟨(.some 42), (.mov (.tmp 13)), .none⟩, (false, [])), (⟨(.some 43), (.iadr 5 (.tmp 41) (.tmp 42)), .none⟩, (false, [])), (⟨(.some 44), (.fadr 2 (.tmp 43)), .none⟩, (false, [])), (⟨(.some 45), (.fadr 0 (.tmp 44)), .none⟩, (false, [])), (⟨(.some 46), (.ld (.tmp 45)), .none⟩, (false, [])), (⟨(.some 47), (.fadr 0 (.tmp 12)), .none⟩, (false, [])), (⟨(.some 48), (.ld (.tmp 47)), .none⟩, (false, [])), (⟨(.some 49), (.bin .eql (.tmp 46) (.tmp 48)), .none⟩, (false, []))]) (.cond (.tmp 49) (.seq (.ops [⟨(.some 8), (.mov (.const (.slice .none 0 0))), .none⟩, ⟨(.some 9), (.mov (.const (.int .i64 13))), .none⟩]) .ret) .skip))) (.ops [⟨(.some 39), (.mov (.tmp 13)), .none⟩, ⟨(.some 40), (.bin .add (.tmp 39) (.const (.int .i64 1))), .none⟩, ⟨(.some 13), (.mov (.tmp 40)), .none⟩])))))) (.seq (.seq (.ops [⟨(.some 50), (.mov (.tmp 11)), .none⟩, ⟨(.some 51), (.len (.tmp 50)), .none⟩, ⟨(.some 52), (.mov (.tmp 2)), .none⟩, ⟨(.some 53), (.bin .geq (.tmp 51) (.tmp 52)), .none⟩, ⟨(.some 54), (.mov (.tmp 53)), .none⟩, ⟨(.some 55), (.fadr 1 (.tmp 12)), (.some (54, false))⟩, ⟨(.some 56), (.ld (.tmp 55)), (.some (54, false))⟩, ⟨(.some 57), (.mov (.tmp 3)), (.some (54, false))⟩, ⟨(.some 58), (.bin .gtr (.tmp 56) (.tmp 57)), (.some (54, false))⟩, ⟨(.some 59), (.pick (.tmp 54) (.const (.bool true)) (.tmp 58)), .none⟩]) (.cond (.tmp 59) (.seq (.ops [⟨(.some 8), (.mov (.const (.slice .none 0 0))), .none⟩, ⟨(.some 9), (.mov (.const (.int .i64 8))), .none⟩]) .ret) .skip)) (.seq (.ops [⟨(.some 61), (.mov (.tmp 0)), .none⟩, ⟨(.some 62), (.ldn 3 (.tmp 5)), .none⟩, ⟨(.some 63), (.fadr 0 (.tmp 12)), .none⟩, ⟨(.some 64), (.ld (.tmp 63)), .none⟩, ⟨(.some 65), (.call 65 12 [(.tmp 61), (.tmp 62), (.tmp 64)]), .none⟩, ⟨(.some 60), (.mov (.tmp 65)), .none⟩, ⟨(.some 66), (.ext (.tmp 60) 0), .none⟩, ⟨(.some 67), (.ext (.tmp 60) 1), .none⟩, ⟨(.some 14), (.alloc 14 [(.int .u64 0), (.int .u64 0), (.slice .none 0 0)]), .none⟩, ⟨.none, (.st 3 (.tmp 14) (.tmp 66)), .none⟩, ⟨(.some 15), (.mov (.tmp 67)), .none⟩]) (.seq (.seq (.ops [⟨(.some 68), (.mov (.tmp 15)), .none⟩, ⟨(.some 69), (.bin .neq (.tmp 68) (.const (.int .i64 0))), .none⟩]) (.cond (.tmp 69) (.seq (.ops [⟨(.some 70), (.mov (.tmp 15)), .none⟩, ⟨(.some 8), (.mov (.const (.slice .none 0 0))), .none⟩, ⟨(.some 9), (.mov (.tmp 70)), .none⟩]) .ret) .skip)) (.seq (.ops [⟨(.some 71), (.mov (.tmp 11)), .none⟩, ⟨(.some 72), (.fadr 1 (.tmp 12)), .none⟩, ⟨(.some 73), (.ld (.tmp 72)), .none⟩, ⟨(.some 74), (.fadr 2 (.tmp 12)), .none⟩, ⟨(.some 75), (.ld (.tmp 74)), .none⟩, ⟨(.some 76), (.ldn 3 (.tmp 14)), .none⟩, ⟨(.some 77), (.build [(.int .i64 0), (.int .i64 0), (.int .u64 0), (.int .u64 0), (.slice .none 0 0)] [(0, (1, (.tmp 73))), (1, (1, (.tmp 75))), (2, (3, (.tmp 76)))]), .none⟩, ⟨(.some 78), (.lit 5 [(.tmp 77)]), .none⟩, ⟨(.some 79), (.app 79 5 56 (.tmp 71) (.tmp 78)), .none⟩, ⟨(.some 11), (.mov (.tmp 79)), .none⟩]) (.seq (.ops [⟨(.some 16), (.mov (.const (.slice .none 0 0))), .none⟩]) (.seq (.seq (.ops [⟨(.some 17), (.mov (.const (.int .i64 0))), .none⟩]) (.block 4 (.loop (.seq (.seq (.ops [⟨(.some 80), (.mov (.tmp 17)), .none⟩, ⟨(.some 81), (.fadr 2 (.tmp 14)), .none⟩, ⟨(.some 82), (.ld (.tmp 81)), .none⟩, ⟨(.some 83), (.len (.tmp 82)), .none⟩, ⟨(.some 84), (.bin .lss (.tmp 80) (.tmp 83)), .none⟩]) (.cond (.tmp 84) .skip (.exit 4))) (.seq (.block 5 (.seq (.ops [⟨(.some 87), (.fadr 2 (.tmp 14)), .none⟩, ⟨(.some 88), (.ld (.tmp 87)), .none⟩, ⟨(.some 89), (.mov (.tmp 17)), .none⟩, ⟨(.some 90), (.iadr 3 (.tmp 88) (.tmp 89)), .none⟩, ⟨(.some 91), (.ldn 3 (.tmp 90)), .none⟩, ⟨(.some 18), (.alloc 18 [(.int .u16 0), (.int .i64 0), (.slice .none 0 0)]), .none⟩, ⟨.none, (.st 3 (.tmp 18) (.tmp 91)), .none⟩]) (.seq (.seq (.ops [⟨(.some 92), (.fadr 0 (.tmp 18)), .none⟩, ⟨(.some 93), (.ld (.tmp 92)), .none⟩, ⟨(.some 94), (.bin .neq (.tmp 93) (.const (.int .u16 330))), .none⟩]) (.cond (.tmp 94) (.exit 5) .skip)) (.seq (.seq (.ops [⟨(.some 95), (.fadr 1 (.tmp 18)), .none⟩, ⟨(.some 96), (.ld (.tmp 95)), .none⟩, ⟨(.some 97), (.bin .neq (.tmp 96) (.const (.int .i64 4))), .none⟩, ⟨(.some 98), (.mov (.tmp 97)), .none⟩, ⟨(.some 99), (.fadr 1 (.tmp 18)), (.some (98, true))⟩, ⟨(.some 100), (.ld (.tmp 99)), (.some (98, true))⟩, ⟨(.some 101), (.bin .neq (.tmp 100) (.const (.int .i64 13))), (.some (98, true))⟩, ⟨(.some 102), (.pick (.tmp 98) (.tmp 101) (.const (.bool false))), .none⟩, ⟨(.some 103), (.mov (.tmp 102)), .none⟩, ⟨(.some 104), (.fadr 1 (.tmp 18)), (.some (103, true))⟩, ⟨(.some 105), (.ld (.tmp 104)), (.some (103, true))⟩, ⟨(.some 106), (.bin .neq (.tmp 105) (.const (.int .i64 16))), (.some (103, true))⟩, ⟨(.some 107), (.pick (.tmp 103) (.tmp 106) (.const (.bool false))), .none⟩, ⟨(.some 108), (.mov (.tmp 107)), .none⟩, ⟨(.some 109), (.fadr 1 (.tmp 18)), (.some (108, true))⟩, ⟨(.some 110), (.ld (.tmp 109)), (.some (108, true))⟩, ⟨(.some 111), (.bin .neq (.tmp 110) (.const (.int .i64 18))), (.some (108, true))⟩, ⟨(.some 112), (.pick (.tmp 108) (.tmp 111) (.const (.bool false))), .none⟩]) (.cond (.tmp 112) (.seq (.ops [⟨(.some 8), (.mov (.const (.slice .none 0 0))), .none⟩, ⟨(.some 9), (.mov (.const (.int .i64 3))), .none⟩]) .ret) .skip)) (.seq (.ops [⟨(.some 19), (.mov (.const (.int .i64 0))), .none⟩]) (.block 6 (.loop (.seq (.seq (.ops [⟨(.some 113), (.mov (.tmp 19)), .none⟩, ⟨(.some 114), (.fadr 2 (.tmp 18)), .none⟩, ⟨(.some 115), (.ld (.tmp 114)), .none⟩, ⟨(.some 116), (.len (.tmp 115)), .none⟩, ⟨(.some 117), (.bin .lss (.tmp 113) (.tmp 116)), .none⟩]) (.cond (.tmp 117) .skip (.exit 6))) (.seq (.block 7 (.draw [(⟨(.some 120), (.mov (.tmp 16)), .none⟩, (false, [])), (⟨(.some 121), (.fadr 2 (.tmp 18)), .none⟩, (false, [])), (⟨(.some 122), (.ld (.tmp 121)), .none⟩, (false, [])), (⟨(.some 123), (.mov (.tmp 19)), .none⟩, (false, [])), (⟨(.some 124), (.iadr 1 (.tmp 122) (.tmp 123)), .none⟩, (false, [])), (⟨(.some 125), (.ld (.tmp 124)), .none⟩, (false, [])), (⟨(.some 126), (.fadr 1 (.tmp 12)), .none⟩, (false, [])), (⟨(.some 127), (.ld (.tmp 126)), .none⟩, (false, [])), (⟨(.some 128), (.bin .add (.tmp 127) (.const (.int .i64 1))), .none⟩, (false, [])), (⟨(.some 129), (.mov (.tmp 11)), .none⟩, (false, [])), (⟨(.some 130), (.len (.tmp 129)), .none⟩, (false, [])), (⟨(.some 131), (.bin .sub (.tmp 130) (.const (.int .i64 1))), .none⟩, (false, [])), (⟨(.some 132), (.build [(.int .u64 0), (.int .i64 0), (.int .i64 0)] [(0, (1, (.tmp 125))), (1, (1, (.tmp 128))), (2, (1, (.tmp 131)))]), .none⟩, (false, [])), (⟨(.some 133), (.lit 3 [(.tmp 132)]), .none⟩, (false, [5, 12, 14, 18])), (⟨(.some 134), (.app 134 3 24 (.tmp 120) (.tmp 133)), .none⟩, (false, [5, 12, 14, 18])), (⟨(.some 16), (.mov (.tmp 134)), .none⟩, (false, []))])) (.ops [⟨(.some 118), (.mov (.tmp 19)), .none⟩, ⟨(.some 119), (.bin .add (.tmp 118) (.const (.int .i64 1))), .none⟩, ⟨(.some 19), (.mov (.tmp 119)), .none⟩])))))))))) (.ops [⟨(.some 85), (.mov (.tmp 17)), .none⟩, ⟨(.some 86), (.bin .add (.tmp 85) (.const (.int .i64 1))), .none⟩, ⟨(.some 17), (.mov (.tmp 86)), .none⟩])))))) (.seq (.ops [⟨(.some 135), (.mov (.tmp 16)), .none⟩, ⟨(.some 136), (.fadr 1 (.tmp 14)), .none⟩, ⟨(.some 137), (.ld (.tmp 136)), .none⟩, ⟨(.some 138), (.fadr 1 (.tmp 12)), .none⟩, ⟨(.some 139), (.ld (.tmp 138)), .none⟩, ⟨(.some 140), (.fadr 2 (.tmp 12)), .none⟩, ⟨(.some 141), (.ld (.tmp 140)), .none⟩, ⟨(.some 142), (.build [(.int .u64 0), (.int .i64 0), (.int .i64 0)] [(0, (1, (.tmp 137))), (1, (1, (.tmp 139))), (2, (1, (.tmp 141)))]), .none⟩, ⟨(.some 143), (.lit 3 [(.tmp 142)]), .none⟩, ⟨(.some 144), (.app 144 3 24 (.tmp 135) (.tmp 143)), .none⟩, ⟨(.some 16), (.mov (.tmp 144)), .none⟩]) (.ops [⟨(.some 145), (.mov (.tmp 16)), .none⟩, ⟨(.some 146), (.mov (.tmp 10)), .none⟩, ⟨(.some 147), (.app 147 3 24 (.tmp 145) (.tmp 146)), .none⟩, ⟨(.some 10), (.mov (.tmp 147)), .none⟩])))))))))))))))) (.seq (.ops [⟨(.some 148), (.mov (.tmp 11)), .none⟩, ⟨(.some 8), (.mov (.tmp 148)), .none⟩, ⟨(.some 9), (.mov (.const (.int .i64 0))), .none⟩]) .ret))))), [(8, .none), (9, .none)]⟩
theorem c7 : cmpF Try.prog [] [] 7 = some a7 := by kernel_rfl
def a9 : AFn := ⟨35, (.seq (.ops [⟨(.some 4), (.mov (.const (.slice .none 0 0))), .none⟩, ⟨(.some 5), (.mov (.const (.int .i64 0))), .none⟩]) (.seq (.ops [⟨(.some 6), (.mov (.const (.slice .none 0 0))), .none⟩]) (.seq (.seq (.ops [⟨(.some 7), (.mov (.const (.int .i64 0))), .none⟩]) (.block 0 (.loop (.seq (.seq (.ops [⟨(.some 8), (.mov (.tmp 1)), .none⟩, ⟨(.some 9), (.bin .geq (.tmp 8) (.const (.int .i64 0))), .none⟩]) (.cond (.tmp 9) .skip (.exit 0))) (.seq (.block 1 (.seq (.seq (.ops [⟨(.some 12), (.mov (.tmp 1)), .none⟩, ⟨(.some 13), (.mov (.tmp 0)), .none⟩, ⟨(.some 14), (.len (.tmp 13)), .none⟩, ⟨(.some 15), (.bin .geq (.tmp 12) (.tmp 14)), .none⟩, ⟨(.some 16), (.mov (.tmp 15)), .none⟩, ⟨(.some 17), (.mov (.tmp 7)), (.some (16, false))⟩, ⟨(.some 18), (.mov (.tmp 0)), (.some (16, false))⟩, ⟨(.some 19), (.len (.tmp 18)), (.some (16, false))⟩, ⟨(.some 20), (.bin .gtr (.tmp 17) (.tmp 19)), (.some (16, false))⟩, ⟨(.some 21), (.pick (.tmp 16) (.const (.bool true)) (.tmp 20)), .none⟩]) (.cond (.tmp 21) (.seq (.ops [⟨(.some 4), (.mov (.const (.slice .none 0 0))), .none⟩, ⟨(.some 5), (.mov (.const (.int .i64 1))), .none⟩]) .ret) .skip)) (.seq (.ops [⟨(.some 22), (.mov (.tmp 1)), .none⟩, ⟨(.some 23), (.litO 23 1 [(.tmp 22)]), .none⟩, ⟨(.some 24), (.mov (.tmp 6)), .none⟩, ⟨(.some 25), (.app 25 1 8 (.tmp 23) (.tmp 24)), .none⟩, ⟨(.some 6), (.mov (.tmp 25)), .none⟩]) (.ops [⟨(.some 26), (.mov (.tmp 0)), .none⟩, ⟨(.some 27), (.mov (.tmp 1)), .none⟩, ⟨(.some 28), (.iadr 5 (.tmp 26) (.tmp 27)), .none⟩, ⟨(.some 29), (.fadr 1 (.tmp 28)), .none⟩, ⟨(.some 30), (.ld (.tmp 29)), .none⟩, ⟨(.some 1), (.mov (.tmp 30)), .none⟩])))) (.ops [⟨(.some 10), (.mov (.tmp 7)), .none⟩, ⟨(.some 11), (.bin .add (.tmp 10) (.const (.int .i64 1))), .none⟩, ⟨(.some 7), (.mov (.tmp 11)), .none⟩])))))) (.seq (.seq (.ops [⟨(.some 31), (.mov (.tmp 6)), .none⟩, ⟨(.some 32), (.len (.tmp 31)), .none⟩, ⟨(.some 33), (.bin .eql (.tmp 32) (.const (.int .i64 0))), .none⟩]) (.cond (.tmp 33) (.seq (.ops [⟨(.some 4), (.mov (.const (.slice .none 0 0))), .none⟩, ⟨(.some 5), (.mov (.const (.int .i64 1))), .none⟩]) .ret) .skip)) (.seq (.ops [⟨(.some 34), (.mov (.tmp 6)), .none⟩, ⟨(.some 4), (.mov (.tmp 34)), .none⟩, ⟨(.some 5), (.mov (.const (.int .i64 0))), .none⟩]) .ret))))), [(4, .none), (5, .none)]⟩
theorem c9 : cmpF Try.prog [23] [] 9 = some a9 := by kernel_rfl
def a11 : AFn := ⟨119, (.seq (.ops [⟨(.some 8), (.mov (.const (.int .i64 0))), .none⟩]) (.seq (.block 0 (.loop (.seq (.seq (.ops [⟨(.some 17), (.mov (.tmp 1)), .none⟩, ⟨(.some 18), (.bin .neq (.tmp 17) (.const (.int .u64 0))), .none⟩]) (.cond (.tmp 18) .skip (.exit 0))) (.block 1 (.seq (.block 2 (.seq (.ops [⟨(.some 20), (.mov (.tmp 0)), .none⟩, ⟨(.some 21), (.nilC (.tmp 20)), .none⟩, ⟨(.some 22), (.fadr 6 (.tmp 21)), .none⟩, ⟨(.some 23), (.ld (.tmp 22)), .none⟩, ⟨(.some 24), (.mov (.tmp 1)), .none⟩, ⟨(.some 25), (.lkp .u64 false (.bool false) (.tmp 23) (.tmp 24)), .none⟩, ⟨(.some 19), (.mov (.tmp 25)), .none⟩]) (.cond (.tmp 19) (.seq (.ops [⟨(.some 8), (.mov (.const (.int .i64 13))), .none⟩]) .ret) (.seq (.draw [(⟨(.some 27), (.mov (.tmp 0)), .none⟩, (false, [])), (⟨(.some 28), (.nilC (.tmp 27)), .none⟩, (false, [])), (⟨(.some 29), (.fadr 7 (.tmp 28)), .none⟩, (false, [])), (⟨(.some 30), (.ld (.tmp 29)), .none⟩, (false, [])), (⟨(.some 31), (.len (.tmp 30)), .none⟩, (false, [])), (⟨(.some 32), (.mov (.tmp 0)), .none⟩, (false, [])), (⟨(.some 33), (.nilC (.tmp 32)), .none⟩, (false, [])), (⟨(.some 34), (.fadr 4 (.tmp 33)), .none⟩, (false, [])), (⟨(.some 35), (.ld (.tmp 34)), .none⟩, (false, [])), (⟨(.some 36), (.bin .geq (.tmp 31) (.tmp 35)), .none⟩, (false, [])), (⟨(.some 37), (.mov (.tmp 36)), .none⟩, (false, [])), (⟨(.some 38), (.mov (.tmp 2)), (.some (37, false))⟩, (false, [])), (⟨(.some 39), (.mov (.tmp 0)), (.some (37, false))⟩, (false, [])), (⟨(.some 40), (.nilC (.tmp 39)), (.some (37, false))⟩, (false, [])), (⟨(.some 41), (.fadr 5 (.tmp 40)), (.some (37, false))⟩, (false, [])), (⟨(.some 42), (.ld (.tmp 41)), (.some (37, false))⟩, (false, [])), (⟨(.some 43), (.bin .gtr (.tmp 38) (.tmp 42)), (.some (37, false))⟩, (false, [])), (⟨(.some 44), (.pick (.tmp 37) (.const (.bool true)) (.tmp 43)), .none⟩, (false, [])), (⟨(.some 26), (.mov (.tmp 44)), .none⟩, (false, []))]) (.cond (.tmp 26) (.seq (.ops [⟨(.some 8), (.mov (.const (.int .i64 8))), .none⟩]) .ret) .skip))))) (.seq (.ops [⟨(.some 45), (.mov (.tmp 0)), .none⟩, ⟨(.some 46), (.nilC (.tmp 45)), .none⟩, ⟨(.some 47), (.fadr 6 (.tmp 46)), .none⟩, ⟨(.some 48), (.ld (.tmp 47)), .none⟩, ⟨(.some 49), (.mov (.tmp 1)), .none⟩, ⟨.none, (.mup .u64 (.tmp 48) (.tmp 49) (.const (.bool true))), .none⟩]) (.seq (.drawT (.one ⟨(.some 51), (.mov (.tmp 0)), .none⟩ false [] (.one ⟨(.some 52), (.nilC (.tmp 51)), .none⟩ false [] (.one ⟨(.some 53), (.fadr 0 (.tmp 52)), .none⟩ false [] (.one ⟨(.some 54), (.ld (.tmp 53)), .none⟩ false [] (.one ⟨(.some 55), (.mov (.tmp 0)), .none⟩ false [] (.one ⟨(.some 56), (.nilC (.tmp 55)), .none⟩ false [] (.one ⟨(.some 57), (.fadr 1 (.tmp 56)), .none⟩ false [] (.one ⟨(.some 58), (.ldn 3 (.tmp 57)), .none⟩ false [] (.one ⟨(.some 59), (.mov (.tmp 1)), .none⟩ false [] (.fork ⟨(.some 60), (.call 60 16 [(.tmp 54), (.tmp 58), (.tmp 59)]), .none⟩ ⟨(.some 9), (.alloc 9 [(.int .u64 0), (.int .u64 0), (.slice .none 0 0)]), .none⟩ [13] [13] (.one ⟨(.some 50), (.mov (.tmp 60)), .none⟩ false [] (.one ⟨(.some 61), (.ext (.tmp 50) 0), .none⟩ false [] (.one ⟨(.some 62), (.ext (.tmp 50) 1), .none⟩ true [13] (.one ⟨(.some 9), (.alloc 9 [(.int .u64 0), (.int .u64 0), (.slice .none 0 0)]), .none⟩ false [13] (.one ⟨.none, (.st 3 (.tmp 9) (.tmp 61)), .none⟩ false [13] (.one ⟨(.some 10), (.mov (.tmp 62)), .none⟩ false [] .done)))))) (.one ⟨(.some 60), (.call 60 16 [(.tmp 54), (.tmp 58), (.tmp 59)]), .none⟩ false [13] (.one ⟨(.some 50), (.mov (.tmp 60)), .none⟩ false [] (.one ⟨(.some 61), (.ext (.tmp 50) 0), .none⟩ false [] (.one ⟨(.some 62), (.ext (.tmp 50) 1), .none⟩ true [13] (.one ⟨.none, (.st 3 (.tmp 9) (.tmp 61)), .none⟩ false [13] (.one ⟨(.some 10), (.mov (.tmp 62)), .none⟩ false [] .done))))))))))))))))) (.seq (.seq (.ops [⟨(.some 63), (.mov (.tmp 10)), .none⟩, ⟨(.some 64), (.bin .neq (.tmp 63) (.const (.int .i64 0))), .none⟩]) (.cond (.tmp 64) (.seq (.ops [⟨(.some 65), (.mov (.tmp 10)), .none⟩, ⟨(.some 8), (.mov (.tmp 65)), .none⟩]) .ret) .skip)) (.seq (.draw [(⟨(.some 66), (.mov (.tmp 0)), .none⟩, (true, [9, 13])), (⟨(.some 67), (.mov (.tmp 0)), .none⟩, (false, [])), (⟨(.some 68), (.nilC (.tmp 67)), .none⟩, (false, [])), (⟨(.some 69), (.fadr 7 (.tmp 68)), .none⟩, (false, [])), (⟨(.some 70), (.ld (.tmp 69)), .none⟩, (false, [])), (⟨(.some 71), (.mov (.tmp 2)), .none⟩, (false, [])), (⟨(.some 72), (.mov (.tmp 3)), .none⟩, (false, [])), (⟨(.some 73), (.ldn 3 (.tmp 9)), .none⟩, (false, [])), (⟨(.some 74), (.build [(.int .i64 0), (.int .i64 0), (.int .u64 0), (.int .u64 0), (.slice .none 0 0)] [(0, (1, (.tmp 71))), (1, (1, (.tmp 72))), (2, (3, (.tmp 73)))]), .none⟩, (false, [])), (⟨(.some 75), (.lit 5 [(.tmp 74)]), .none⟩, (false, [9, 13])), (⟨(.some 76), (.app 76 5 56 (.tmp 70) (.tmp 75)), .none⟩, (false, [9, 13])), (⟨(.some 77), (.nilC (.tmp 66)), .none⟩, (false, [])), (⟨(.some 78), (.fadr 7 (.tmp 77)), .none⟩, (false, [])), (⟨.none, (.st 1 (.tmp 78) (.tmp 76)), .none⟩, (false, [9, 13]))]) (.seq (.ops [⟨(.some 79), (.mov (.tmp 0)), .none⟩, ⟨(.some 80), (.nilC (.tmp 79)), .none⟩, ⟨(.some 81), (.fadr 7 (.tmp 80)), .none⟩, ⟨(.some 82), (.ld (.tmp 81)), .none⟩, ⟨(.some 83), (.len (.tmp 82)), .none⟩, ⟨(.some 84), (.bin .sub (.tmp 83) (.const (.int .i64 1))), .none⟩, ⟨(.some 11), (.mov (.tmp 84)), .none⟩]) (.seq (.seq (.ops [⟨(.some 85), (.fadr 2 (.tmp 9)), .none⟩, ⟨(.some 86), (.ld (.tmp 85)), .none⟩, ⟨(.some 87), (.len (.tmp 86)), .none⟩, ⟨(.some 88), (.mov (.const (.int .i64 0))), .none⟩]) (.block 3 (.loop (.seq (.ops [⟨(.some 89), (.bin .lss (.tmp 88) (.tmp 87)), .none⟩]) (.seq (.cond (.tmp 89) .skip (.exit 3)) (.seq (.block 4 (.seq (.ops [⟨(.some 90), (.iadr 3 (.tmp 86) (.tmp 88)), .none⟩, ⟨(.some 91), (.ldn 3 (.tmp 90)), .none⟩, ⟨(.some 13), (.alloc 13 [(.int .u16 0), (.int .i64 0), (.slice .none 0 0)]), .none⟩, ⟨.none, (.st 3 (.tmp 13) (.tmp 91)), .none⟩]) (.seq (.seq (.ops [⟨(.some 92), (.fadr 0 (.tmp 13)), .none⟩, ⟨(.some 93), (.ld (.tmp 92)), .none⟩, ⟨(.some 94), (.bin .neq (.tmp 93) (.const (.int .u16 330))), .none⟩]) (.cond (.tmp 94) (.exit 4) .skip)) (.seq (.seq (.ops [⟨(.some 95), (.fadr 1 (.tmp 13)), .none⟩, ⟨(.some 96), (.ld (.tmp 95)), .none⟩, ⟨(.some 97), (.call 97 17 [(.tmp 96)]), .none⟩, ⟨(.some 98), (.un .not (.tmp 97)), .none⟩]) (.cond (.tmp 98) (.seq (.ops [⟨(.some 8), (.mov (.const (.int .i64 3))), .none⟩]) .ret) .skip)) (.seq (.ops [⟨(.some 99), (.fadr 2 (.tmp 13)), .none⟩, ⟨(.some 100), (.ld (.tmp 99)), .none⟩, ⟨(.some 101), (.len (.tmp 100)), .none⟩, ⟨(.some 102), (.mov (.const (.int .i64 0))), .none⟩]) (.block 5 (.loop (.seq (.ops [⟨(.some 103), (.bin .lss (.tmp 102) (.tmp 101)), .none⟩]) (.seq (.cond (.tmp 103) .skip (.exit 5)) (.seq (.block 6 (.seq (.ops [⟨(.some 104), (.iadr 1 (.tmp 100) (.tmp 102)), .none⟩, ⟨(.some 105), (.ld (.tmp 104)), .none⟩, ⟨(.some 15), (.mov (.tmp 105)), .none⟩]) (.seq (.ops [⟨(.some 106), (.mov (.tmp 0)), .none⟩, ⟨(.some 107), (.mov (.tmp 15)), .none⟩, ⟨(.some 108), (.mov (.tmp 2)), .none⟩, ⟨(.some 109), (.bin .add (.tmp 108) (.const (.int .i64 1))), .none⟩, ⟨(.some 110), (.mov (.tmp 11)), .none⟩, ⟨(.some 111), (.callm 11 [(.tmp 106), (.tmp 107), (.tmp 109), (.tmp 110)]), .none⟩, ⟨(.some 16), (.mov (.tmp 111)), .none⟩]) (.seq (.ops [⟨(.some 112), (.mov (.tmp 16)), .none⟩, ⟨(.some 113), (.bin .neq (.tmp 112) (.const (.int .i64 0))), .none⟩]) (.cond (.tmp 113) (.seq (.ops [⟨(.some 114), (.mov (.tmp 16)), .none⟩, ⟨(.some 8), (.mov (.tmp 114)), .none⟩]) .ret) .skip))))) (.ops [⟨(.some 115), (.bin .add (.tmp 102) (.const (.int .i64 1))), .none⟩, ⟨(.some 102), (.mov (.tmp 115)), .none⟩]))))))))))) (.ops [⟨(.some 116), (.bin .add (.tmp 88) (.const (.int .i64 1))), .none⟩, ⟨(.some 88), (.mov (.tmp 116)), .none⟩]))))))) (.ops [⟨(.some 117), (.fadr 1 (.tmp 9)), .none⟩, ⟨(.some 118), (.ld (.tmp 117)), .none⟩, ⟨(.some 1), (.mov (.tmp 118)), .none⟩])))))))))))) (.seq (.ops [⟨(.some 8), (.mov (.const (.int .i64 0))), .none⟩]) .ret))), [(8, .none)]⟩
theorem c11 : cmpF Try.prog [3000011] [] 11 = some a11 := by kernel_rfl
def smp (sn : List Nat) : List (Int × Value) := sn.map fun a => (((a : Nat) : Int), Value.bool true)
theorem mget_smp (a : Nat) : ∀ sn : List Nat, mget (smp sn) a = if a ∈ sn then some (.bool true) else none
  | [] => rfl
  | x :: sn => by
    have ih := mget_smp a sn
    unfold smp at ih ⊢
    rw [List.map_cons, mget]
    by_cases c : a = x
    · subst c; rw [if_pos rfl, if_pos (by simp)]
    · rw [if_neg (by omega), ih]
      by_cases d : a ∈ sn
      · rw [if_pos d, if_pos (by simp [d])]
      · rw [if_neg d, if_neg (by simp [c, d])]
theorem mset_smp (a : Nat) : ∀ sn : List Nat, a ∉ sn → mset (smp sn) a (.bool true) = smp (sn ++ [a])
  | [], _ => rfl
  | x :: sn, h => by
    have ih := mset_smp a sn fun c => h (by simp [c])
    unfold smp at ih ⊢
    rw [List.map_cons, mset, if_neg (by intro c; exact h (by simp; omega)), ih]
    rfl
theorem smp_len (sn : List Nat) : (smp sn).length = sn.length := List.length_map ..
def itD (it : It) : D := .agg [.c (.int .i64 it.1), .c (.int .i64 it.2.1), .c (.int .u64 it.2.2.1), .c (.int .u64 it.2.2.2.1), .lst 3 (it.2.2.2.2.map fldD)]
theorem its_len (l : List It) : (l.map itD).length = l.length := List.length_map ..
theorem its_snoc (l : List It) (d u : Int) (dr : Dr) : l.map itD ++ [.agg [.c (.int .i64 d), .c (.int .i64 u), .c (.int .u64 dr.1), .c (.int .u64 dr.2.1), .lst 3 (dr.2.2.map fldD)]] = (l ++ [(d, u, dr)]).map itD := by
  rw [List.map_append]
  rfl
def rowN : Option Ob → Nat
  | some (.row _ L) => L.length
  | _ => 0
theorem rowN_row (es : Nat) (L : List D) : rowN (some (.row es L)) = L.length := rfl
theorem ptr_giv (k : Int) : Giv Try.prog 17 [.c (.int .i64 k)] (retV [.c (.bool (decide (ptrP k)))]) := by
  refine Giv.of mixed c17 (Nat.le_of_ble_eq_true rfl) ?_
  by_cases h1 : k = 4
  · subst h1
    simp -dsimp -implicitDefEqProofs (disch := first | omega | (simp only [List.length_append, List.length_cons, List.length_nil, List.length_take, List.length_drop]; omega)) only [a17, ↓aPre, aPost, oneW, allOne, retV, retVA, simprocAttr]
    exact post_eq rfl
  by_cases h2 : k = 13
  · subst h2
    simp -dsimp -implicitDefEqProofs (disch := first | omega | (simp only [List.length_append, List.length_cons, List.length_nil, List.length_take, List.length_drop]; omega)) only [a17, ↓aPre, aPost, oneW, allOne, retV, retVA, simprocAttr]
    exact post_eq rfl
  by_cases h3 : k = 16
  · subst h3
    simp -dsimp -implicitDefEqProofs (disch := first | omega | (simp only [List.length_append, List.length_cons, List.length_nil, List.length_take, List.length_drop]; omega)) only [a17, ↓aPre, aPost, oneW, allOne, retV, retVA, simprocAttr]
    exact post_eq rfl
  by_cases h4 : k = 18
  · subst h4
    simp -dsimp -implicitDefEqProofs (disch := first | omega | (simp only [List.length_append, List.length_cons, List.length_nil, List.length_take, List.length_drop]; omega)) only [a17, ↓aPre, aPost, oneW, allOne, retV, retVA, simprocAttr]
    exact post_eq rfl
  · rw [decide_eq_false (by unfold ptrP; omega)]
    simp -dsimp -implicitDefEqProofs (disch := first | omega | (simp only [List.length_append, List.length_cons, List.length_nil, List.length_take, List.length_drop]; omega)) only [a17, h1, h2, h3, h4, ↓aPre, aPost, oneW, allOne, retV, retVA, simprocAttr]
    exact post_eq rfl
theorem none_330 : ∀ {l : List Fld}, (∀ g ∈ l, (330 : Int) < g.1) → bad l = false ∧ valsB l = []
  | [], _ => ⟨rfl, rfl⟩
  | f :: l, h => by
    obtain ⟨h1, h2⟩ := none_330 (l := l) fun g hg => h g (by simp [hg])
    have := h f (by simp)
    rw [bad, valsB, h1, h2, if_neg (by omega), decide_eq_false (by omega)]
    exact ⟨rfl, rfl⟩
theorem UpTo.tail {w : Int} {f : Fld} {l : List Fld} (h : UpTo w (f :: l)) : UpTo w l := h.2.2
theorem fl_mid {A B L : List Fld} {f : Fld} (h : L = A ++ f :: B) : (L.map fldD).getD A.length default = .agg [.c (.int .u16 f.1), .c (.int .i64 f.2.1), .lst 1 (li .u64 f.2.2)] := by
  subst h
  simp [List.getD, fldD]
theorem W_one {b : List Int} {big large : Bool} {most deep : Int} (s : Stt) (d u : Int) : W b big large most deep [(0, d, u)] s = (s, 0) := by
  rw [W_eq, if_pos rfl, W_nil]
def Ch (b : List Int) (big large : Bool) (first most deep : Int) (n : Nat) : Prop := ∀ (s : Stt) (a : Nat) (d u : Int), Inv b s → Tok s (a, d, u) → b.length - s.2.length ≤ n →
  GivM Try.prog 11 [.ptr 2000000 0, .d (.c (.int .u64 a)), .d (.c (.int .i64 d)), .d (.c (.int .i64 u))]
    [(2000000, .box [.d (.lst 1 (li .u8 b)), .d (.c (.bool big)), .d (.c (.bool large)), .d (.c (.int .u64 first)), .d (.c (.int .i64 most)), .d (.c (.int .i64 deep)), .mp 2000001, .sl 1000000 5 0 s.2.length]), (2000001, .map .u64 (smp s.1)), (1000000, .row 5 (s.2.map itD))]
    (.d (.c (.int .i64 (W b big large most deep [(a, d, u)] s).2)))
    [(2000000, .box [.d (.lst 1 (li .u8 b)), .d (.c (.bool big)), .d (.c (.bool large)), .d (.c (.int .u64 first)), .d (.c (.int .i64 most)), .d (.c (.int .i64 deep)), .mp 2000001, .sl 1000000 5 0 (W b big large most deep [(a, d, u)] s).1.2.length]), (2000001, .map .u64 (smp (W b big large most deep [(a, d, u)] s).1.1)), (1000000, .row 5 ((W b big large most deep [(a, d, u)] s).1.2.map itD))]
theorem ch_step (b : List Int) (big large : Bool) (first most deep : Int) (hl : b.length ≤ 90000) (hB : Bytes b) (hmo : -9223372036854775808 ≤ most ∧ most ≤ 9223372036854775807) (n : Nat) (ih : ∀ m, m < n → Ch b big large first most deep m) : Ch b big large first most deep n := by
  intro s0 a0 d u hI0 hT0 hn0
  obtain ⟨R, hR⟩ : ∃ R, R = W b big large most deep [(a0, d, u)] s0 := ⟨_, rfl⟩
  rw [← hR]
  refine GivM.of mixed c11 (Nat.le_of_ble_eq_true rfl) rfl rfl ?_
  simp -dsimp -implicitDefEqProofs (disch := first | omega | (simp only [List.length_append, List.length_cons, List.length_nil, List.length_take, List.length_drop]; omega)) only [a11, ↓aPre, aPost, oneW, allOne, retV, retVA, simprocAttr]
  refine loop_of (fun st => ∃ (s : Stt) (a : Nat), Inv b s ∧ Tok s (a, d, u) ∧ s0.2.length ≤ s.2.length ∧ R = W b big large most deep [(a, d, u)] s ∧ st.tm 0 = .ptr 2000000 0 ∧ st.tm 1 = .d (.c (.int .u64 a)) ∧ st.tm 2 = .d (.c (.int .i64 d)) ∧ st.tm 3 = .d (.c (.int .i64 u)) ∧ st.hp 2000000 = some (.box [.d (.lst 1 (li .u8 b)), .d (.c (.bool big)), .d (.c (.bool large)), .d (.c (.int .u64 first)), .d (.c (.int .i64 most)), .d (.c (.int .i64 deep)), .mp 2000001, .sl 1000000 5 0 s.2.length]) ∧ st.hp 2000001 = some (.map .u64 (smp s.1)) ∧ st.hp 1000000 = some (.row 5 (s.2.map itD))) (fun st => b.length - rowN (st.hp 1000000)) ?_ ?_
  · refine ⟨s0, a0, hI0, hT0, Nat.le_refl _, hR, ?_⟩
    simp -dsimp -implicitDefEqProofs (disch := first | omega | (simp only [List.length_append, List.length_cons, List.length_nil, List.length_take, List.length_drop]; omega)) only [↓aPre, aPost, oneW, allOne, retV, retVA, simprocAttr]
  clear hI0 hT0 hR
  rintro st ⟨s, a, hI, hT, hle, hR, hs⟩
  have hlen := its_len s.2
  have hil := hI.len
  have hsl := smp_len s.1
  by_cases ha : a = 0
  · subst ha
    rw [W_one] at hR
    subst hR
    simp -dsimp -implicitDefEqProofs (disch := first | omega | (simp only [List.length_append, List.length_cons, List.length_nil, List.length_take, List.length_drop]; omega)) only [hs, ↓aPre, aPost, oneW, allOne, retV, retVA, simprocAttr]
    refine end_of rfl ?_
    simp -dsimp -implicitDefEqProofs (disch := first | omega | (simp only [List.length_append, List.length_cons, List.length_nil, List.length_take, List.length_drop]; omega)) only [hs, ↓aPre, aPost, oneW, allOne, retV, retVA, simprocAttr]
  rw [W_eq, if_neg ha] at hR
  have hge := mget_smp a s.1
  by_cases hin : a ∈ s.1
  · rw [if_pos hin] at hR hge
    subst hR
    simp -dsimp -implicitDefEqProofs (disch := first | omega | (simp only [List.length_append, List.length_cons, List.length_nil, List.length_take, List.length_drop]; omega)) only [hs, hge, ↓aPre, aPost, oneW, allOne, retV, retVA, simprocAttr]
    refine end_of rfl ?_
    simp -dsimp -implicitDefEqProofs (disch := first | omega | (simp only [List.length_append, List.length_cons, List.length_nil, List.length_take, List.length_drop]; omega)) only [hs, ↓aPre, aPost, oneW, allOne, retV, retVA, simprocAttr]
  rw [if_neg hin] at hR hge
  have hse := mset_smp a s.1 hin
  by_cases hm : most ≤ (s.2.length : Int)
  · rw [if_pos (.inl hm)] at hR
    subst hR
    simp -dsimp -implicitDefEqProofs (disch := first | omega | (simp only [List.length_append, List.length_cons, List.length_nil, List.length_take, List.length_drop]; omega)) only [hs, hge, ↓aPre, aPost, oneW, allOne, retV, retVA, simprocAttr]
    refine end_of rfl ?_
    simp -dsimp -implicitDefEqProofs (disch := first | omega | (simp only [List.length_append, List.length_cons, List.length_nil, List.length_take, List.length_drop]; omega)) only [hs, ↓aPre, aPost, oneW, allOne, retV, retVA, simprocAttr]
  by_cases hdp : deep < d
  · rw [if_pos (.inr hdp)] at hR
    subst hR
    simp -dsimp -implicitDefEqProofs (disch := first | omega | (simp only [List.length_append, List.length_cons, List.length_nil, List.length_take, List.length_drop]; omega)) only [hs, hge, ↓aPre, aPost, oneW, allOne, retV, retVA, simprocAttr]
    refine end_of rfl ?_
    simp -dsimp -implicitDefEqProofs (disch := first | omega | (simp only [List.length_append, List.length_cons, List.length_nil, List.length_take, List.length_drop]; omega)) only [hs, ↓aPre, aPost, oneW, allOne, retV, retVA, simprocAttr]
  rw [if_neg (fun c => c.elim hm hdp)] at hR
  have hrd := read_giv b big large first a (by omega) hB hT.1
  obtain ⟨dr, hdr⟩ : ∃ dr, dr = dirS b big large a := ⟨_, rfl⟩
  have hok := dirS_ok (b := b) (big := big) (large := large) (a := a) hB
  have hok2 := dir_ok (b := b) (big := big) (large := large) (a := a) hB
  have hsml := dir_small b big large a
  dsimp only at hR
  rw [← hdr] at hR hrd hok hok2 hsml
  obtain ⟨⟨at_, nx, fs⟩, er⟩ := dr
  dsimp only at hR hok hok2 hsml
  rw [dirE, dirD, hD] at hrd
  dsimp only at hrd
  simp -dsimp -implicitDefEqProofs (disch := first | omega | (simp only [List.length_append, List.length_cons, List.length_nil, List.length_take, List.length_drop]; omega)) only [hs, hge, hse, hsl, ↓aPre, aPost, oneW, allOne, retV, retVA, simprocAttr]
  refine ⟨?_, ?_⟩
  all_goals
    refine call_giv hrd ?_
    by_cases he : er = 0
    rotate_left
    · rw [if_pos he] at hR
      subst hR
      simp -dsimp -implicitDefEqProofs (disch := first | omega | (simp only [List.length_append, List.length_cons, List.length_nil, List.length_take, List.length_drop]; omega)) only [hs, he, ↓aPre, aPost, oneW, allOne, retV, retVA, simprocAttr]
      refine end_of rfl ?_
      simp -dsimp -implicitDefEqProofs (disch := first | omega | (simp only [List.length_append, List.length_cons, List.length_nil, List.length_take, List.length_drop]; omega)) only [hs, ↓aPre, aPost, oneW, allOne, retV, retVA, simprocAttr]
    rw [if_neg (fun c => c he)] at hR
    obtain ⟨k1, k2, k3, k4⟩ := hok he
    obtain ⟨m1, w0, m2⟩ := hok2 he
    have hI1 : Inv b (s.1 ++ [a], s.2 ++ [(d, u, (at_, nx, fs))]) := hI.snoc (dr := (at_, nx, fs)) k1 k2 hin hT.2 hsml
    have hl1 := hI1.len.2
    dsimp only at hl1
    rw [List.length_append, List.length_cons, List.length_nil] at hl1
    have hsn := its_snoc s.2 d u (at_, nx, fs)
    dsimp only at hsn
    obtain ⟨nx, rfl⟩ := Int.eq_ofNat_of_zero_le k3
    have hd : 0 ≤ d ∧ d ≤ s.2.length := by
      rcases hT.2 with h | ⟨v, h1, h2, h3⟩
      · have := h.1; dsimp only at this; omega
      · have := hI.dep v h2
        dsimp only at h3
        omega
    obtain ⟨s1, hs1⟩ : ∃ s1 : Stt, s1 = (s.1 ++ [a], s.2 ++ [(d, u, ((at_ : Int), (nx : Int), fs))]) := ⟨_, rfl⟩
    have hs11 : s1.1 = s.1 ++ [a] := by rw [hs1]
    have hs12 : s1.2 = s.2 ++ [(d, u, ((at_ : Int), (nx : Int), fs))] := by rw [hs1]
    have hl2 : s1.2.length = s.2.length + 1 := by rw [hs12]; simp
    rw [← hs12] at hsn
    rw [← hs1] at hR hI1
    rw [if_neg (show ¬ b.length ≤ s.2.length by omega)] at hR
    have hfl : (fs.map fldD).length = fs.length := List.length_map ..
    have hfs := hsml.1
    dsimp only at hfs
    obtain ⟨own, hown⟩ : ∃ own, own = s.2.length := ⟨_, rfl⟩
    have i0 : ((s.2.length : Int) + 1 - 1) = (own : Int) := by omega
    rw [← hown] at hR
    simp -dsimp -implicitDefEqProofs (disch := first | omega | (simp only [List.length_append, List.length_cons, List.length_nil, List.length_take, List.length_drop]; omega)) only [hs, he, hlen, hsn, hfl, i0, ↓aPre, aPost, oneW, allOne, retV, retVA, simprocAttr]
    refine loop_of (fun st => ∃ (F1 F2 : List Fld) (q : Stt), fs = F1 ++ F2 ∧ Inv b q ∧ own < q.2.length ∧ Hng q.2 d u ∧ d + 1 = (itx q.2 own).1 + 1 ∧ UpTo w0 F2 ∧ ((bad F2 = true ∧ R = (q, 3)) ∨ (bad F2 = false ∧ R = W b big large most deep (tks (d + 1) own (valsB F2) ++ [(nx, d, u)]) q)) ∧ st.tm 86 = .d (.lst 3 (fs.map fldD)) ∧ st.tm 87 = .d (.c (.int .i64 fs.length)) ∧ st.tm 88 = .d (.c (.int .i64 F1.length)) ∧ st.tm 11 = .d (.c (.int .i64 own)) ∧ st.tm 9 = .ptr 9 0 ∧ st.hp 9 = some (.box [.d (.c (.int .u64 at_)), .d (.c (.int .u64 nx)), .d (.lst 3 (fs.map fldD))]) ∧ st.tm 0 = .ptr 2000000 0 ∧ st.tm 2 = .d (.c (.int .i64 d)) ∧ st.tm 3 = .d (.c (.int .i64 u)) ∧ st.hp 2000000 = some (.box [.d (.lst 1 (li .u8 b)), .d (.c (.bool big)), .d (.c (.bool large)), .d (.c (.int .u64 first)), .d (.c (.int .i64 most)), .d (.c (.int .i64 deep)), .mp 2000001, .sl 1000000 5 0 q.2.length]) ∧ st.hp 2000001 = some (.map .u64 (smp q.1)) ∧ st.hp 1000000 = some (.row 5 (q.2.map itD))) (fun st => fs.length - (avN (st.tm 88)).toNat) ?_ ?_
    · refine ⟨[], fs, s1, rfl, hI1, by omega, by rw [hs12]; exact hT.2.app, by rw [hs12, hown, itx_last], m2, ?_, ?_⟩
      · by_cases hbd : bad fs = true
        · rw [if_pos hbd] at hR; exact .inl ⟨hbd, hR⟩
        · rw [if_neg hbd] at hR; exact .inr ⟨by simpa using hbd, by simpa using hR⟩
      · simp -dsimp -implicitDefEqProofs (disch := first | omega | (simp only [List.length_append, List.length_cons, List.length_nil, List.length_take, List.length_drop]; omega)) only [hs, hl2, hs11, List.length_nil, Int.natCast_zero, ↓aPre, aPost, oneW, allOne, retV, retVA, simprocAttr]
    have hs00 := hs
    clear hR hI1 hl1 hsn hl2 hs11 hs12 hs1 hse hge hlen hsl
    rintro st2 ⟨F1, F2, q, hF, hIq, hoq, hHq, hdq, hup, hRq, hs⟩
    have hfl2 : fs.length = F1.length + F2.length := by rw [hF, List.length_append]
    have hql := hIq.len.2
    cases F2 with
    | nil =>
      have hRq : R = W b big large most deep [(nx, d, u)] q := by
        rcases hRq with ⟨h, _⟩ | ⟨_, h⟩
        · exact absurd h (by decide)
        · exact h
      rw [List.length_nil, Nat.add_zero] at hfl2
      rw [← hfl2] at hs
      simp -dsimp -implicitDefEqProofs (disch := first | omega | (simp only [List.length_append, List.length_cons, List.length_nil, List.length_take, List.length_drop]; omega)) only [hs, ↓aPre, aPost, oneW, allOne, retV, retVA, simprocAttr]
      refine round_of ⟨q, nx, hIq, ⟨by dsimp only; omega, hHq⟩, by omega, hRq, ?_⟩ ?_
      · simp -dsimp -implicitDefEqProofs (disch := first | omega | (simp only [List.length_append, List.length_cons, List.length_nil, List.length_take, List.length_drop]; omega)) only [hs, ↓aPre, aPost, oneW, allOne, retV, retVA, simprocAttr]
      · simp -dsimp -implicitDefEqProofs (disch := first | omega | (simp only [List.length_append, List.length_cons, List.length_nil, List.length_take, List.length_drop]; omega)) only [hs, hs00, rowN, List.length_map, ↓aPre, aPost, oneW, allOne, retV, retVA, simprocAttr]
        omega
    | cons f F2 =>
      rw [List.length_cons] at hfl2
      have gf := fl_mid hF
      have hup2 := hup.tail
      have hab := hup.2.1
      rw [bad, valsB] at hRq
      obtain ⟨i, hi⟩ : ∃ i, i = F1.length := ⟨_, rfl⟩
      rw [← hi] at hs gf hfl2
      have j1 : (i : Int) + 1 = ((F1 ++ [f]).length : Int) := by rw [List.length_append, List.length_cons, List.length_nil]; omega
      obtain ⟨i2, hi2⟩ : ∃ i2, i2 = (F1 ++ [f]).length := ⟨_, rfl⟩
      rw [← hi2] at j1
      by_cases h330 : f.1 = 330
      rotate_left
      · rw [if_neg h330, List.nil_append, decide_eq_false (fun c => h330 c.1), Bool.false_or] at hRq
        simp -dsimp -implicitDefEqProofs (disch := first | omega | (simp only [List.length_append, List.length_cons, List.length_nil, List.length_take, List.length_drop]; omega)) only [hs, hfl, gf, h330, j1, ↓aPre, aPost, oneW, allOne, retV, retVA, simprocAttr]
        refine round_of ⟨F1 ++ [f], F2, q, by rw [hF]; simp, hIq, hoq, hHq, hdq, hup2, hRq, ?_⟩ ?_
        · rw [← hi2]
          simp -dsimp -implicitDefEqProofs (disch := first | omega | (simp only [List.length_append, List.length_cons, List.length_nil, List.length_take, List.length_drop]; omega)) only [hs, ↓aPre, aPost, oneW, allOne, retV, retVA, simprocAttr]
        · simp -dsimp -implicitDefEqProofs (disch := first | omega | (simp only [List.length_append, List.length_cons, List.length_nil, List.length_take, List.length_drop]; omega)) only [hs, ↓aPre, aPost, oneW, allOne, retV, retVA, simprocAttr]
          omega
      have hptr := ptr_giv f.2.1
      obtain ⟨hn1, hn2⟩ := none_330 (l := F2) fun g hg => by have := hab g hg; omega
      rw [if_pos h330, hn1, hn2, List.append_nil] at hRq
      by_cases hpt : ptrP f.2.1
      rotate_left
      · have hRq : R = (q, 3) := by
          rcases hRq with ⟨_, h⟩ | ⟨h, _⟩
          · exact h
          · rw [decide_eq_true ⟨h330, hpt⟩] at h; exact absurd h (by decide)
        subst hRq
        rw [decide_eq_false hpt] at hptr
        simp -dsimp -implicitDefEqProofs (disch := first | omega | (simp only [List.length_append, List.length_cons, List.length_nil, List.length_take, List.length_drop]; omega)) only [hs, hfl, gf, h330, ↓aPre, aPost, oneW, allOne, retV, retVA, simprocAttr]
        refine call_giv hptr ?_
        simp -dsimp -implicitDefEqProofs (disch := first | omega | (simp only [List.length_append, List.length_cons, List.length_nil, List.length_take, List.length_drop]; omega)) only [hs, ↓aPre, aPost, oneW, allOne, retV, retVA, simprocAttr]
        refine end_of rfl ?_
        simp -dsimp -implicitDefEqProofs (disch := first | omega | (simp only [List.length_append, List.length_cons, List.length_nil, List.length_take, List.length_drop]; omega)) only [hs, ↓aPre, aPost, oneW, allOne, retV, retVA, simprocAttr]
      have hRq : R = W b big large most deep (tks (d + 1) own f.2.2 ++ [(nx, d, u)]) q := by
        rcases hRq with ⟨h, _⟩ | ⟨_, h⟩
        · rw [decide_eq_false (fun c => c.2 hpt)] at h; exact absurd h (by decide)
        · exact h
      rw [decide_eq_true hpt] at hptr
      have hvl := li_length (k := .u64) (l := f.2.2)
      have hU := m1 f (by rw [hF]; simp)
      have hvb := hsml.2 f (by rw [hF]; simp)
      simp -dsimp -implicitDefEqProofs (disch := first | omega | (simp only [List.length_append, List.length_cons, List.length_nil, List.length_take, List.length_drop]; omega)) only [hs, hfl, gf, h330, ↓aPre, aPost, oneW, allOne, retV, retVA, simprocAttr]
      refine call_giv hptr ?_
      simp -dsimp -implicitDefEqProofs (disch := first | omega | (simp only [List.length_append, List.length_cons, List.length_nil, List.length_take, List.length_drop]; omega)) only [hs, hvl, ↓aPre, aPost, oneW, allOne, retV, retVA, simprocAttr]
      have hs0 := hs
      refine loop_of (fun st => ∃ (V1 V2 : List Int) (q : Stt), f.2.2 = V1 ++ V2 ∧ Inv b q ∧ own < q.2.length ∧ Hng q.2 d u ∧ d + 1 = (itx q.2 own).1 + 1 ∧ R = W b big large most deep (tks (d + 1) own V2 ++ [(nx, d, u)]) q ∧ st.tm 100 = .d (.lst 1 (li .u64 f.2.2)) ∧ st.tm 101 = .d (.c (.int .i64 f.2.2.length)) ∧ st.tm 102 = .d (.c (.int .i64 V1.length)) ∧ st.tm 86 = .d (.lst 3 (fs.map fldD)) ∧ st.tm 87 = .d (.c (.int .i64 fs.length)) ∧ st.tm 88 = .d (.c (.int .i64 i)) ∧ st.tm 11 = .d (.c (.int .i64 own)) ∧ st.tm 9 = .ptr 9 0 ∧ st.hp 9 = some (.box [.d (.c (.int .u64 at_)), .d (.c (.int .u64 nx)), .d (.lst 3 (fs.map fldD))]) ∧ st.tm 0 = .ptr 2000000 0 ∧ st.tm 2 = .d (.c (.int .i64 d)) ∧ st.tm 3 = .d (.c (.int .i64 u)) ∧ st.hp 2000000 = some (.box [.d (.lst 1 (li .u8 b)), .d (.c (.bool big)), .d (.c (.bool large)), .d (.c (.int .u64 first)), .d (.c (.int .i64 most)), .d (.c (.int .i64 deep)), .mp 2000001, .sl 1000000 5 0 q.2.length]) ∧ st.hp 2000001 = some (.map .u64 (smp q.1)) ∧ st.hp 1000000 = some (.row 5 (q.2.map itD))) (fun st => f.2.2.length - (avN (st.tm 102)).toNat) ?_ ?_
      · refine ⟨[], f.2.2, q, rfl, hIq, hoq, hHq, hdq, hRq, ?_⟩
        simp -dsimp -implicitDefEqProofs (disch := first | omega | (simp only [List.length_append, List.length_cons, List.length_nil, List.length_take, List.length_drop]; omega)) only [hs, List.length_nil, Int.natCast_zero, ↓aPre, aPost, oneW, allOne, retV, retVA, simprocAttr]
      clear hs hRq hIq hoq hHq hdq hql
      rintro st3 ⟨V1, V2, q, hV, hIq, hoq, hHq, hdq, hRq, hs⟩
      have hvl2 : f.2.2.length = V1.length + V2.length := by rw [hV, List.length_append]
      have hql := hIq.len.2
      cases V2 with
      | nil =>
        rw [List.length_nil, Nat.add_zero] at hvl2
        rw [← hvl2] at hs
        simp -dsimp -implicitDefEqProofs (disch := first | omega | (simp only [List.length_append, List.length_cons, List.length_nil, List.length_take, List.length_drop]; omega)) only [hs, j1, ↓aPre, aPost, oneW, allOne, retV, retVA, simprocAttr]
        refine round_of ⟨F1 ++ [f], F2, q, by rw [hF]; simp, hIq, hoq, hHq, hdq, hup2, .inr ⟨hn1, by rw [hn2]; exact hRq⟩, ?_⟩ ?_
        · rw [← hi2]
          simp -dsimp -implicitDefEqProofs (disch := first | omega | (simp only [List.length_append, List.length_cons, List.length_nil, List.length_take, List.length_drop]; omega)) only [hs, ↓aPre, aPost, oneW, allOne, retV, retVA, simprocAttr]
        · simp -dsimp -implicitDefEqProofs (disch := first | omega | (simp only [List.length_append, List.length_cons, List.length_nil, List.length_take, List.length_drop]; omega)) only [hs, hs0, ↓aPre, aPost, oneW, allOne, retV, retVA, simprocAttr]
          omega
      | cons v V2 =>
        rw [List.length_cons] at hvl2
        have hv := hU v (by rw [hV]; simp)
        obtain ⟨v, rfl⟩ := Int.eq_ofNat_of_zero_le hv.1
        have gv : f.2.2.getD V1.length 0 = (v : Int) := by rw [hV]; simp [List.getD]
        have hTv : Tok q (v, d + 1, (own : Int)) := ⟨by dsimp only; omega, .inr ⟨own, rfl, hoq, hdq⟩⟩
        have hcall := ih (b.length - q.2.length) (by omega) q v (d + 1) own hIq hTv (Nat.le_refl _)
        have hinv := W_inv (big := big) (large := large) (most := most) (deep := deep) hB [(v, d + 1, (own : Int))] q hIq (fun t ht => by simp only [List.mem_cons, List.not_mem_nil, or_false] at ht; subst ht; exact hTv)
        rw [show tks (d + 1) own ((v : Int) :: V2) ++ [(nx, d, u)] = (v, d + 1, (own : Int)) :: (tks (d + 1) own V2 ++ [(nx, d, u)]) by simp [tks], W_cons] at hRq
        obtain ⟨P, hP⟩ : ∃ P, P = W b big large most deep [(v, d + 1, (own : Int))] q := ⟨_, rfl⟩
        rw [← hP] at hcall hinv hRq
        obtain ⟨q2, e2⟩ := P
        dsimp only at hcall hinv hRq
        obtain ⟨j, hj⟩ : ∃ j, j = V1.length := ⟨_, rfl⟩
        rw [← hj] at hs gv hvl2
        have j2 : (j : Int) + 1 = ((V1 ++ [(v : Int)]).length : Int) := by rw [List.length_append, List.length_cons, List.length_nil]; omega
        obtain ⟨j3, hj3⟩ : ∃ j3, j3 = (V1 ++ [(v : Int)]).length := ⟨_, rfl⟩
        have hj4 : j3 = j + 1 := by rw [hj3, List.length_append, hj]; rfl
        rw [← hj3] at j2
        simp -dsimp -implicitDefEqProofs (disch := first | omega | (simp only [List.length_append, List.length_cons, List.length_nil, List.length_take, List.length_drop]; omega)) only [hs, hvl, gv, ↓aPre, aPost, oneW, allOne, retV, retVA, simprocAttr]
        refine call_mut hcall [] rfl rfl ?_ ?_
        · simp -dsimp -implicitDefEqProofs (disch := first | omega | (simp only [List.length_append, List.length_cons, List.length_nil, List.length_take, List.length_drop]; omega)) only [hs, ↓aPre, aPost, oneW, allOne, retV, retVA, simprocAttr]
        by_cases he2 : e2 = 0
        · subst he2
          rw [if_pos rfl] at hRq
          obtain ⟨hI2, r, hr⟩ := hinv rfl
          have hlr : q2.2.length = q.2.length + r.length := by rw [hr, List.length_append]
          simp -dsimp -implicitDefEqProofs (disch := first | omega | (simp only [List.length_append, List.length_cons, List.length_nil, List.length_take, List.length_drop]; omega)) only [hs, j2, ↓aPre, aPost, oneW, allOne, retV, retVA, simprocAttr]
          refine round_of ⟨V1 ++ [(v : Int)], V2, q2, by rw [hV]; simp, hI2, by omega, by rw [hr]; exact hHq.app, by rw [hr, itx_app hoq]; exact hdq, hRq, ?_⟩ ?_
          · rw [← hj3]
            simp -dsimp -implicitDefEqProofs (disch := first | omega | (simp only [List.length_append, List.length_cons, List.length_nil, List.length_take, List.length_drop]; omega)) only [hs, ↓aPre, aPost, oneW, allOne, retV, retVA, simprocAttr]
          · simp -dsimp -implicitDefEqProofs (disch := first | omega | (simp only [List.length_append, List.length_cons, List.length_nil, List.length_take, List.length_drop]; omega)) only [hs, ↓aPre, aPost, oneW, allOne, retV, retVA, simprocAttr]
            omega
        · rw [if_neg he2] at hRq
          subst hRq
          simp -dsimp -implicitDefEqProofs (disch := first | omega | (simp only [List.length_append, List.length_cons, List.length_nil, List.length_take, List.length_drop]; omega)) only [hs, he2, ↓aPre, aPost, oneW, allOne, retV, retVA, simprocAttr]
          refine end_of rfl ?_
          simp -dsimp -implicitDefEqProofs (disch := first | omega | (simp only [List.length_append, List.length_cons, List.length_nil, List.length_take, List.length_drop]; omega)) only [hs, ↓aPre, aPost, oneW, allOne, retV, retVA, simprocAttr]
theorem chain11 (b : List Int) (big large : Bool) (first most deep : Int) (hl : b.length ≤ 90000) (hB : Bytes b) (hmo : -9223372036854775808 ≤ most ∧ most ≤ 9223372036854775807) (n : Nat) : Ch b big large first most deep n := by
  induction n using Nat.strongRecOn with
  | ind n ih => exact ch_step b big large first most deep hl hB hmo n ih
end Go.Proofs.Ytpjnpmdmcllilaa
