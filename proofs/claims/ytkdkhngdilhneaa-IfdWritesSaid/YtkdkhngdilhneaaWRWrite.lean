/- A directory, written by the reference. No condition but what each says. -/
import Derived.Test.YtkdkhngdilhneaaWWrite
set_option linter.unusedSimpArgs false
set_option linter.unusedVariables false
set_option maxRecDepth 8000
set_option maxHeartbeats 4000000
namespace Go.Proofs.Ytkdkhngdilhneaa
open Go.Eng Go.RowKit
def a15 : AFn := ⟨200, (.seq (.ops [⟨(.some 5), (.box 5 3 (.tmp 1)), .none⟩, ⟨(.some 8), (.mov (.const (.string (strOfNums [])))), .none⟩, ⟨(.some 9), (.mov (.const (.int .i64 0))), .none⟩]) (.seq (.seq (.ops [⟨(.some 33), (.mov (.tmp 0)), .none⟩, ⟨(.some 34), (.fadr 1 (.tmp 5)), .none⟩, ⟨(.some 35), (.ld (.tmp 34)), .none⟩, ⟨(.some 36), (.call 36 17 [(.tmp 33), (.tmp 35)]), .none⟩, ⟨(.some 37), (.un .not (.tmp 36)), .none⟩]) (.cond (.tmp 37) (.seq (.ops [⟨(.some 8), (.mov (.const (.string (strOfNums [])))), .none⟩, ⟨(.some 9), (.mov (.const (.int .i64 1))), .none⟩]) .ret) .skip)) (.seq (.ops [⟨(.some 39), (.fadr 1 (.tmp 5)), .none⟩, ⟨(.some 40), (.ld (.tmp 39)), .none⟩, ⟨(.some 41), (.call 41 34 [(.tmp 40)]), .none⟩, ⟨(.some 38), (.mov (.tmp 41)), .none⟩, ⟨(.some 42), (.ext (.tmp 38) 0), .none⟩, ⟨(.some 43), (.ext (.tmp 38) 1), .none⟩, ⟨(.some 44), (.ext (.tmp 38) 2), .none⟩, ⟨(.some 10), (.mov (.tmp 42)), .none⟩, ⟨(.some 11), (.mov (.tmp 43)), .none⟩, ⟨(.some 12), (.mov (.tmp 44)), .none⟩]) (.seq (.ops [⟨(.some 46), (.mov (.tmp 0)), .none⟩, ⟨(.some 47), (.len (.tmp 46)), .none⟩, ⟨(.some 48), (.cvI .u64 (.tmp 47)), .none⟩, ⟨(.some 49), (.mov (.tmp 10)), .none⟩, ⟨(.some 50), (.fadr 0 (.tmp 5)), .none⟩, ⟨(.some 51), (.ld (.tmp 50)), .none⟩, ⟨(.some 52), (.call 52 29 [(.tmp 48), (.tmp 49), (.tmp 51)]), .none⟩, ⟨(.some 45), (.mov (.tmp 52)), .none⟩, ⟨(.some 53), (.ext (.tmp 45) 0), .none⟩, ⟨(.some 54), (.ext (.tmp 45) 1), .none⟩, ⟨(.some 13), (.mov (.tmp 53)), .none⟩, ⟨(.some 14), (.mov (.tmp 54)), .none⟩]) (.seq (.ops [⟨(.some 15), (.mov (.const (.string (strOfNums [])))), .none⟩]) (.seq (.ops [⟨(.some 16), (.mov (.const (.int .i64 0))), .none⟩]) (.seq (.ops [⟨(.some 55), (.mov (.tmp 10)), .none⟩, ⟨(.some 56), (.mov (.tmp 11)), .none⟩, ⟨(.some 57), (.mov (.tmp 0)), .none⟩, ⟨(.some 58), (.len (.tmp 57)), .none⟩, ⟨(.some 59), (.bin .mul (.tmp 56) (.tmp 58)), .none⟩, ⟨(.some 60), (.bin .add (.tmp 55) (.tmp 59)), .none⟩, ⟨(.some 61), (.mov (.tmp 12)), .none⟩, ⟨(.some 62), (.bin .add (.tmp 60) (.tmp 61)), .none⟩, ⟨(.some 63), (.cvI .u64 (.tmp 62)), .none⟩, ⟨(.some 17), (.mov (.tmp 63)), .none⟩]) (.seq (.seq (.ops [⟨(.some 18), (.mov (.const (.int .i64 0))), .none⟩]) (.block 0 (.loop (.seq (.seq (.ops [⟨(.some 64), (.mov (.tmp 18)), .none⟩, ⟨(.some 65), (.mov (.tmp 0)), .none⟩, ⟨(.some 66), (.len (.tmp 65)), .none⟩, ⟨(.some 67), (.bin .lss (.tmp 64) (.tmp 66)), .none⟩]) (.cond (.tmp 67) .skip (.exit 0))) (.seq (.block 1 (.seq (.draw [(⟨(.some 71), (.mov (.tmp 0)), .none⟩, (false, [])), (⟨(.some 72), (.mov (.tmp 18)), .none⟩, (false, [])), (⟨(.some 73), (.iadr 3 (.tmp 71) (.tmp 72)), .none⟩, (false, [])), (⟨(.some 74), (.fadr 2 (.tmp 73)), .none⟩, (false, [])), (⟨(.some 75), (.ld (.tmp 74)), .none⟩, (false, [])), (⟨(.some 76), (.mov (.tmp 0)), .none⟩, (false, [])), (⟨(.some 77), (.mov (.tmp 18)), .none⟩, (false, [])), (⟨(.some 78), (.iadr 3 (.tmp 76) (.tmp 77)), .none⟩, (false, [])), (⟨(.some 79), (.fadr 1 (.tmp 78)), .none⟩, (false, [])), (⟨(.some 80), (.ld (.tmp 79)), .none⟩, (false, [])), (⟨(.some 81), (.fadr 0 (.tmp 5)), .none⟩, (false, [])), (⟨(.some 82), (.ld (.tmp 81)), .none⟩, (false, [])), (⟨(.some 83), (.call 83 35 [(.tmp 75), (.tmp 80), (.tmp 82)]), .none⟩, (false, [5])), (⟨(.some 70), (.mov (.tmp 83)), .none⟩, (false, [])), (⟨(.some 84), (.ext (.tmp 70) 0), .none⟩, (false, [])), (⟨(.some 85), (.ext (.tmp 70) 1), .none⟩, (false, [])), (⟨(.some 19), (.mov (.tmp 84)), .none⟩, (false, [])), (⟨(.some 20), (.mov (.tmp 85)), .none⟩, (false, []))]) (.seq (.seq (.ops [⟨(.some 86), (.mov (.tmp 20)), .none⟩, ⟨(.some 87), (.bin .neq (.tmp 86) (.const (.int .i64 0))), .none⟩]) (.cond (.tmp 87) (.seq (.ops [⟨(.some 88), (.mov (.tmp 20)), .none⟩, ⟨(.some 8), (.mov (.const (.string (strOfNums [])))), .none⟩, ⟨(.some 9), (.mov (.tmp 88)), .none⟩]) .ret) .skip)) (.seq (.draw [(⟨(.some 90), (.mov (.tmp 0)), .none⟩, (false, [])), (⟨(.some 91), (.mov (.tmp 18)), .none⟩, (false, [])), (⟨(.some 92), (.iadr 3 (.tmp 90) (.tmp 91)), .none⟩, (false, [])), (⟨(.some 93), (.fadr 0 (.tmp 92)), .none⟩, (false, [])), (⟨(.some 94), (.ld (.tmp 93)), .none⟩, (false, [])), (⟨(.some 95), (.cvI .u64 (.tmp 94)), .none⟩, (false, [])), (⟨(.some 96), (.fadr 0 (.tmp 5)), .none⟩, (false, [])), (⟨(.some 97), (.ld (.tmp 96)), .none⟩, (false, [])), (⟨(.some 98), (.call 98 29 [(.tmp 95), (.const (.int .i64 2)), (.tmp 97)]), .none⟩, (false, [5])), (⟨(.some 89), (.mov (.tmp 98)), .none⟩, (false, [])), (⟨(.some 99), (.ext (.tmp 89) 0), .none⟩, (false, [])), (⟨(.some 100), (.ext (.tmp 89) 1), .none⟩, (false, [])), (⟨(.some 21), (.mov (.tmp 99)), .none⟩, (false, [])), (⟨(.some 22), (.mov (.tmp 100)), .none⟩, (false, []))]) (.seq (.draw [(⟨(.some 102), (.mov (.tmp 0)), .none⟩, (false, [])), (⟨(.some 103), (.mov (.tmp 18)), .none⟩, (false, [])), (⟨(.some 104), (.iadr 3 (.tmp 102) (.tmp 103)), .none⟩, (false, [])), (⟨(.some 105), (.fadr 1 (.tmp 104)), .none⟩, (false, [])), (⟨(.some 106), (.ld (.tmp 105)), .none⟩, (false, [])), (⟨(.some 107), (.cvI .u64 (.tmp 106)), .none⟩, (false, [])), (⟨(.some 108), (.fadr 0 (.tmp 5)), .none⟩, (false, [])), (⟨(.some 109), (.ld (.tmp 108)), .none⟩, (false, [])), (⟨(.some 110), (.call 110 29 [(.tmp 107), (.const (.int .i64 2)), (.tmp 109)]), .none⟩, (false, [5])), (⟨(.some 101), (.mov (.tmp 110)), .none⟩, (false, [])), (⟨(.some 111), (.ext (.tmp 101) 0), .none⟩, (false, [])), (⟨(.some 112), (.ext (.tmp 101) 1), .none⟩, (false, [])), (⟨(.some 23), (.mov (.tmp 111)), .none⟩, (false, [])), (⟨(.some 24), (.mov (.tmp 112)), .none⟩, (false, []))]) (.seq (.draw [(⟨(.some 114), (.mov (.tmp 0)), .none⟩, (false, [])), (⟨(.some 115), (.mov (.tmp 18)), .none⟩, (false, [])), (⟨(.some 116), (.iadr 3 (.tmp 114) (.tmp 115)), .none⟩, (false, [])), (⟨(.some 117), (.fadr 2 (.tmp 116)), .none⟩, (false, [])), (⟨(.some 118), (.ld (.tmp 117)), .none⟩, (false, [])), (⟨(.some 119), (.len (.tmp 118)), .none⟩, (false, [])), (⟨(.some 120), (.cvI .u64 (.tmp 119)), .none⟩, (false, [])), (⟨(.some 121), (.mov (.tmp 12)), .none⟩, (false, [])), (⟨(.some 122), (.fadr 0 (.tmp 5)), .none⟩, (false, [])), (⟨(.some 123), (.ld (.tmp 122)), .none⟩, (false, [])), (⟨(.some 124), (.call 124 29 [(.tmp 120), (.tmp 121), (.tmp 123)]), .none⟩, (false, [5])), (⟨(.some 113), (.mov (.tmp 124)), .none⟩, (false, [])), (⟨(.some 125), (.ext (.tmp 113) 0), .none⟩, (false, [])), (⟨(.some 126), (.ext (.tmp 113) 1), .none⟩, (false, [])), (⟨(.some 25), (.mov (.tmp 125)), .none⟩, (false, [])), (⟨(.some 26), (.mov (.tmp 126)), .none⟩, (false, []))]) (.seq (.ops [⟨(.some 127), (.mov (.tmp 13)), .none⟩, ⟨(.some 128), (.mov (.tmp 21)), .none⟩, ⟨(.some 129), (.mov (.tmp 23)), .none⟩, ⟨(.some 130), (.bin .add (.tmp 128) (.tmp 129)), .none⟩, ⟨(.some 131), (.mov (.tmp 25)), .none⟩, ⟨(.some 132), (.bin .add (.tmp 130) (.tmp 131)), .none⟩, ⟨(.some 133), (.bin .add (.tmp 127) (.tmp 132)), .none⟩, ⟨(.some 13), (.mov (.tmp 133)), .none⟩]) (.seq (.seq (.ops [⟨(.some 134), (.mov (.tmp 19)), .none⟩, ⟨(.some 135), (.lenS (.tmp 134)), .none⟩, ⟨(.some 136), (.mov (.tmp 12)), .none⟩, ⟨(.some 137), (.bin .leq (.tmp 135) (.tmp 136)), .none⟩]) (.cond (.tmp 137) (.seq (.block 2 (.loop (.seq (.seq (.ops [⟨(.some 138), (.mov (.tmp 19)), .none⟩, ⟨(.some 139), (.lenS (.tmp 138)), .none⟩, ⟨(.some 140), (.mov (.tmp 12)), .none⟩, ⟨(.some 141), (.bin .lss (.tmp 139) (.tmp 140)), .none⟩]) (.cond (.tmp 141) .skip (.exit 2))) (.block 3 (.ops [⟨(.some 142), (.mov (.tmp 19)), .none⟩, ⟨(.some 143), (.bin .add (.tmp 142) (.const (.string (strOfNums [0])))), .none⟩, ⟨(.some 19), (.mov (.tmp 143)), .none⟩]))))) (.seq (.ops [⟨(.some 144), (.mov (.tmp 13)), .none⟩, ⟨(.some 145), (.mov (.tmp 19)), .none⟩, ⟨(.some 146), (.bin .add (.tmp 144) (.tmp 145)), .none⟩, ⟨(.some 13), (.mov (.tmp 146)), .none⟩]) (.exit 1))) .skip)) (.seq (.ops [⟨(.some 148), (.mov (.tmp 2)), .none⟩, ⟨(.some 149), (.mov (.tmp 17)), .none⟩, ⟨(.some 150), (.mov (.tmp 15)), .none⟩, ⟨(.some 151), (.lenS (.tmp 150)), .none⟩, ⟨(.some 152), (.cvI .u64 (.tmp 151)), .none⟩, ⟨(.some 153), (.bin .add (.tmp 149) (.tmp 152)), .none⟩, ⟨(.some 154), (.call 154 36 [(.tmp 148), (.tmp 153)]), .none⟩, ⟨(.some 147), (.mov (.tmp 154)), .none⟩, ⟨(.some 155), (.ext (.tmp 147) 0), .none⟩, ⟨(.some 156), (.ext (.tmp 147) 1), .none⟩, ⟨(.some 27), (.mov (.tmp 155)), .none⟩, ⟨(.some 28), (.mov (.tmp 156)), .none⟩]) (.seq (.seq (.ops [⟨(.some 157), (.mov (.tmp 28)), .none⟩, ⟨(.some 158), (.bin .neq (.tmp 157) (.const (.int .i64 0))), .none⟩]) (.cond (.tmp 158) (.seq (.ops [⟨(.some 8), (.mov (.const (.string (strOfNums [])))), .none⟩, ⟨(.some 9), (.mov (.const (.int .i64 11))), .none⟩]) .ret) .skip)) (.seq (.ops [⟨(.some 160), (.mov (.tmp 27)), .none⟩, ⟨(.some 161), (.mov (.tmp 12)), .none⟩, ⟨(.some 162), (.fadr 0 (.tmp 5)), .none⟩, ⟨(.some 163), (.ld (.tmp 162)), .none⟩, ⟨(.some 164), (.call 164 29 [(.tmp 160), (.tmp 161), (.tmp 163)]), .none⟩, ⟨(.some 159), (.mov (.tmp 164)), .none⟩, ⟨(.some 165), (.ext (.tmp 159) 0), .none⟩, ⟨(.some 166), (.ext (.tmp 159) 1), .none⟩, ⟨(.some 29), (.mov (.tmp 165)), .none⟩, ⟨(.some 30), (.mov (.tmp 166)), .none⟩]) (.seq (.seq (.ops [⟨(.some 167), (.mov (.tmp 30)), .none⟩, ⟨(.some 168), (.bin .neq (.tmp 167) (.const (.int .i64 0))), .none⟩]) (.cond (.tmp 168) (.ops [⟨(.some 16), (.mov (.const (.int .i64 11))), .none⟩]) .skip)) (.seq (.ops [⟨(.some 169), (.mov (.tmp 13)), .none⟩, ⟨(.some 170), (.mov (.tmp 29)), .none⟩, ⟨(.some 171), (.bin .add (.tmp 169) (.tmp 170)), .none⟩, ⟨(.some 13), (.mov (.tmp 171)), .none⟩]) (.seq (.ops [⟨(.some 172), (.mov (.tmp 15)), .none⟩, ⟨(.some 173), (.mov (.tmp 19)), .none⟩, ⟨(.some 174), (.bin .add (.tmp 172) (.tmp 173)), .none⟩, ⟨(.some 15), (.mov (.tmp 174)), .none⟩]) (.seq (.ops [⟨(.some 175), (.mov (.tmp 15)), .none⟩, ⟨(.some 176), (.lenS (.tmp 175)), .none⟩, ⟨(.some 177), (.bin .rem (.tmp 176) (.const (.int .i64 2))), .none⟩, ⟨(.some 178), (.bin .eql (.tmp 177) (.const (.int .i64 1))), .none⟩]) (.cond (.tmp 178) (.ops [⟨(.some 179), (.mov (.tmp 15)), .none⟩, ⟨(.some 180), (.bin .add (.tmp 179) (.const (.string (strOfNums [0])))), .none⟩, ⟨(.some 15), (.mov (.tmp 180)), .none⟩]) .skip)))))))))))))))) (.ops [⟨(.some 68), (.mov (.tmp 18)), .none⟩, ⟨(.some 69), (.bin .add (.tmp 68) (.const (.int .i64 1))), .none⟩, ⟨(.some 18), (.mov (.tmp 69)), .none⟩])))))) (.seq (.ops [⟨(.some 182), (.mov (.tmp 3)), .none⟩, ⟨(.some 183), (.mov (.tmp 12)), .none⟩, ⟨(.some 184), (.fadr 0 (.tmp 5)), .none⟩, ⟨(.some 185), (.ld (.tmp 184)), .none⟩, ⟨(.some 186), (.call 186 29 [(.tmp 182), (.tmp 183), (.tmp 185)]), .none⟩, ⟨(.some 181), (.mov (.tmp 186)), .none⟩, ⟨(.some 187), (.ext (.tmp 181) 0), .none⟩, ⟨(.some 188), (.ext (.tmp 181) 1), .none⟩, ⟨(.some 31), (.mov (.tmp 187)), .none⟩, ⟨(.some 32), (.mov (.tmp 188)), .none⟩]) (.seq (.seq (.ops [⟨(.some 189), (.mov (.tmp 32)), .none⟩, ⟨(.some 190), (.bin .neq (.tmp 189) (.const (.int .i64 0))), .none⟩, ⟨(.some 191), (.mov (.tmp 190)), .none⟩, ⟨(.some 192), (.mov (.tmp 16)), (.some (191, false))⟩, ⟨(.some 193), (.bin .neq (.tmp 192) (.const (.int .i64 0))), (.some (191, false))⟩, ⟨(.some 194), (.pick (.tmp 191) (.const (.bool true)) (.tmp 193)), .none⟩]) (.cond (.tmp 194) (.seq (.ops [⟨(.some 8), (.mov (.const (.string (strOfNums [])))), .none⟩, ⟨(.some 9), (.mov (.const (.int .i64 11))), .none⟩]) .ret) .skip)) (.seq (.ops [⟨(.some 195), (.mov (.tmp 13)), .none⟩, ⟨(.some 196), (.mov (.tmp 31)), .none⟩, ⟨(.some 197), (.bin .add (.tmp 195) (.tmp 196)), .none⟩, ⟨(.some 198), (.mov (.tmp 15)), .none⟩, ⟨(.some 199), (.bin .add (.tmp 197) (.tmp 198)), .none⟩, ⟨(.some 8), (.mov (.tmp 199)), .none⟩, ⟨(.some 9), (.mov (.const (.int .i64 0))), .none⟩]) .ret))))))))))), [(8, .none), (9, .none)]⟩
theorem c15 : cmpF Try.prog [] [] 15 = some a15 := by kernel_rfl
theorem rwrite_giv (l : List Fld) (big large : Bool) (first : Int) (at_ next : Nat) (hl : l.length ≤ 140737488351232) (hv : ∀ f ∈ l, FR f) (hat : at_ < 18446744073709551616) (hnx : next < 18446744073709551616) :
    Giv Try.prog 15 [.lst 3 (l.map fldD), hD big large first, .c (.int .u64 at_), .c (.int .u64 next)] (retV [.c (.string (strOfNums (wdS l big large at_ next).1)), .c (.int .i64 (wdS l big large at_ next).2)]) := by
  have hlen := fls_len l
  have hr := rright_giv l large hl (fun f hf => by have := (hv f hf).n; omega)
  obtain ⟨R, hR⟩ : ∃ R, R = wdS l big large at_ next := ⟨_, rfl⟩
  rw [← hR]
  rw [wdS] at hR
  by_cases hB : rtS l large = true
  rotate_left
  · have hB : rtS l large = false := by simpa using hB
    rw [hB] at hr
    rw [if_pos hB] at hR
    refine Giv.of mixed c15 (Nat.le_of_ble_eq_true rfl) ?_
    simp -dsimp -implicitDefEqProofs (disch := first | omega | (simp only [List.length_append, List.length_cons, List.length_nil, List.length_take, List.length_drop]; omega)) only [a15, hD, ↓aPre, aPost, oneW, allOne, retV, retVA, simprocAttr]
    refine call_giv hr ?_
    simp -dsimp -implicitDefEqProofs (disch := first | omega | (simp only [List.length_append, List.length_cons, List.length_nil, List.length_take, List.length_drop]; omega)) only [↓aPre, aPost, oneW, allOne, retV, retVA, simprocAttr]
    exact post_eq (by rw [hR])
  rw [if_neg (by rw [hB]; decide)] at hR
  rw [hB] at hr
  obtain ⟨h64, hrt⟩ := of_decide_eq_true hB
  have hsz := rct_giv large
  have hcb : 2 ≤ ct large ∧ ct large ≤ 8 ∧ en large ≤ 20 ∧ 4 ≤ wd large ∧ wd large ≤ 8 := by cases large <;> decide
  have hp0 := rput_ok big (sized_ct large) (by omega) (fits_c (show l.length < 65536 by omega) large)
  have hpl0 := putL_len l.length (ct large) big
  obtain ⟨E, hE⟩ : ∃ E, E = en large * l.length := ⟨_, rfl⟩
  have hEI : (en large : Int) * (l.length : Int) = E := by rw [hE]; simp
  have hEb : E ≤ 20 * 64 := by rw [hE]; exact Nat.mul_le_mul hcb.2.2.1 h64
  obtain ⟨base, hbase⟩ : ∃ base, base = ct large + E + wd large := ⟨_, rfl⟩
  have hbI : (ct large : Int) + E + (wd large : Int) = (base : Int) := by omega
  rw [← hE, ← hbase] at hR
  obtain ⟨S, hS⟩ : ∃ S, S = wrS big large at_ base l (putL l.length (ct large) big) [] false := ⟨_, rfl⟩
  rw [← hS] at hR
  refine Giv.of mixed c15 (Nat.le_of_ble_eq_true rfl) ?_
  simp -dsimp -implicitDefEqProofs (disch := first | omega | (simp only [List.length_append, List.length_cons, List.length_nil, List.length_take, List.length_drop]; omega)) only [a15, hD, ↓aPre, aPost, oneW, allOne, retV, retVA, simprocAttr]
  refine call_giv hr ?_
  simp -dsimp -implicitDefEqProofs (disch := first | omega | (simp only [List.length_append, List.length_cons, List.length_nil, List.length_take, List.length_drop]; omega)) only [↓aPre, aPost, oneW, allOne, retV, retVA, simprocAttr]
  refine call_giv hsz ?_
  simp -dsimp -implicitDefEqProofs (disch := first | omega | (simp only [List.length_append, List.length_cons, List.length_nil, List.length_take, List.length_drop]; omega)) only [hlen, ↓aPre, aPost, oneW, allOne, retV, retVA, simprocAttr]
  refine call_giv hp0 ?_
  simp -dsimp -implicitDefEqProofs (disch := first | omega | (simp only [List.length_append, List.length_cons, List.length_nil, List.length_take, List.length_drop]; omega)) only [hlen, hEI, hbI, ↓aPre, aPost, oneW, allOne, retV, retVA, simprocAttr]
  refine loop_of (fun s => ∃ (k : Nat) (out behind : List Int) (bad : Bool), k ≤ l.length ∧ S = wrS big large at_ base (l.drop k) out behind bad ∧ out.length ≤ 8 + k * 20 ∧ behind.length ≤ k * 2401 ∧ behind.length % 2 = 0 ∧ s.tm 18 = .d (.c (.int .i64 k)) ∧ s.tm 0 = .d (.lst 3 (l.map fldD)) ∧ s.tm 2 = .d (.c (.int .u64 at_)) ∧ s.tm 3 = .d (.c (.int .u64 next)) ∧ s.tm 5 = .ptr 5 0 ∧ s.hp 5 = some (.box [.d (.c (.bool big)), .d (.c (.bool large)), .d (.c (.int .u64 first))]) ∧ s.tm 12 = .d (.c (.int .i64 (wd large))) ∧ s.tm 13 = .d (.c (.string (strOfNums out))) ∧ s.tm 15 = .d (.c (.string (strOfNums behind))) ∧ s.tm 16 = .d (.c (.int .i64 (if bad = true then 11 else 0))) ∧ s.tm 17 = .d (.c (.int .u64 base))) (fun s => l.length - (avN (s.tm 18)).toNat) ?_ ?_
  · refine ⟨0, putL l.length (ct large) big, [], false, Nat.zero_le _, hS, by omega, by simp, by simp, ?_⟩
    simp -dsimp -implicitDefEqProofs (disch := first | omega | (simp only [List.length_append, List.length_cons, List.length_nil, List.length_take, List.length_drop]; omega)) only [Int.natCast_zero, hpl0, List.length_nil, ↓aPre, aPost, oneW, allOne, retV, retVA, simprocAttr]
  rintro s ⟨k, out, behind, bad, hk, hSk, hol, hbl, hev, hs⟩
  have hk64 : k * 20 ≤ 64 * 20 := Nat.mul_le_mul_right _ (by omega)
  have hk65 : k * 2401 ≤ 64 * 2401 := Nat.mul_le_mul_right _ (by omega)
  by_cases hlt : k < l.length
  · have eg := fl_get hlt
    have hfr := hv _ (fl_mem hlt)
    have hok := (hrt k hlt).1
    rw [fl_drop hlt, wrS] at hSk
    obtain ⟨f, hf⟩ : ∃ f, f = fl l k := ⟨_, rfl⟩
    rw [← hf] at hfr hok hSk
    rw [← hf, fldD] at eg
    clear hf
    obtain ⟨t, ki, v⟩ := f
    obtain ⟨t, rfl⟩ := Int.eq_ofNat_of_zero_le hfr.t.1
    have hkb : 0 ≤ ki ∧ ki ≤ 18 := by have := hok.1; unfold knownP at this; dsimp only at this; omega
    obtain ⟨kd, rfl⟩ := Int.eq_ofNat_of_zero_le hkb.1
    have htb := hfr.t.2
    have hvl := hfr.n
    dsimp only at hSk eg htb hvl
    have g35 := (wkS_giv kd v big (by omega) hfr.v).2
    have hwl := wkS_len kd v big
    obtain ⟨W, hW⟩ : ∃ W, W = wkS kd v big := ⟨_, rfl⟩
    rw [← hW] at g35 hSk hwl
    by_cases he : W.2 = 0
    rotate_left
    · have he' := ibne_t he
      rw [if_pos he] at hSk
      rw [hSk, if_pos he] at hR
      simp -dsimp -implicitDefEqProofs (disch := first | omega | (simp only [List.length_append, List.length_cons, List.length_nil, List.length_take, List.length_drop]; omega)) only [hs, hlen, eg, ↓aPre, aPost, oneW, allOne, retV, retVA, simprocAttr]
      refine call_giv g35 ?_
      simp -dsimp -implicitDefEqProofs (disch := first | omega | (simp only [List.length_append, List.length_cons, List.length_nil, List.length_take, List.length_drop]; omega)) only [hs, he', ↓aPre, aPost, oneW, allOne, retV, retVA, simprocAttr]
      exact post_eq (by rw [hR])
    rw [if_neg (fun q => q he)] at hSk
    rw [he] at g35
    have p1 := putL_len t 2 big
    have p2 := putL_len kd 2 big
    have p3 := putL_len v.length (wd large) big
    have q1 := rput_ok big (.inr (.inl rfl)) (show t < 18446744073709551616 by omega) (fits_2 (show t < 65536 by omega))
    have q2 := rput_ok big (.inr (.inl rfl)) (show kd < 18446744073709551616 by omega) (fits_2 (show kd < 65536 by omega))
    have q3 := rput_ok big (sized_wd large) (show v.length < 18446744073709551616 by omega) (fits_w (show v.length < 65536 * 65536 by omega) large)
    rw [show ((2 : Nat) : Int) = 2 from rfl] at q1 q2
    rw [ehd] at hSk
    dsimp only at hSk
    rw [Int.toNat_natCast, Int.toNat_natCast] at hSk
    by_cases hw : W.1.length ≤ wd large
    · rw [if_pos hw] at hSk
      have hwI : (W.1.length : Int) ≤ (wd large : Int) := by omega
      simp -dsimp -implicitDefEqProofs (disch := first | omega | (simp only [List.length_append, List.length_cons, List.length_nil, List.length_take, List.length_drop]; omega)) only [hs, hlen, eg, ↓aPre, aPost, oneW, allOne, retV, retVA, simprocAttr]
      refine call_giv g35 ?_
      simp -dsimp -implicitDefEqProofs (disch := first | omega | (simp only [List.length_append, List.length_cons, List.length_nil, List.length_take, List.length_drop]; omega)) only [hs, hlen, eg, ↓aPre, aPost, oneW, allOne, retV, retVA, simprocAttr]
      refine call_giv q1 ?_
      simp -dsimp -implicitDefEqProofs (disch := first | omega | (simp only [List.length_append, List.length_cons, List.length_nil, List.length_take, List.length_drop]; omega)) only [hs, hlen, eg, ↓aPre, aPost, oneW, allOne, retV, retVA, simprocAttr]
      refine call_giv q2 ?_
      simp -dsimp -implicitDefEqProofs (disch := first | omega | (simp only [List.length_append, List.length_cons, List.length_nil, List.length_take, List.length_drop]; omega)) only [hs, hlen, eg, ↓aPre, aPost, oneW, allOne, retV, retVA, simprocAttr]
      refine call_giv q3 ?_
      simp -dsimp -implicitDefEqProofs (disch := first | omega | (simp only [List.length_append, List.length_cons, List.length_nil, List.length_take, List.length_drop]; omega)) only [hs, hwI, ↓aPre, aPost, oneW, allOne, retV, retVA, simprocAttr]
      refine loop_of (fun s => ∃ (j : Nat), j ≤ wd large - W.1.length ∧ s.tm 19 = .d (.c (.string (strOfNums (W.1 ++ zs j)))) ∧ s.tm 18 = .d (.c (.int .i64 k)) ∧ s.tm 0 = .d (.lst 3 (l.map fldD)) ∧ s.tm 2 = .d (.c (.int .u64 at_)) ∧ s.tm 3 = .d (.c (.int .u64 next)) ∧ s.tm 5 = .ptr 5 0 ∧ s.hp 5 = some (.box [.d (.c (.bool big)), .d (.c (.bool large)), .d (.c (.int .u64 first))]) ∧ s.tm 12 = .d (.c (.int .i64 (wd large))) ∧ s.tm 13 = .d (.c (.string (strOfNums (out ++ (putL t 2 big ++ putL kd 2 big ++ putL v.length (wd large) big))))) ∧ s.tm 15 = .d (.c (.string (strOfNums behind))) ∧ s.tm 16 = .d (.c (.int .i64 (if bad = true then 11 else 0))) ∧ s.tm 17 = .d (.c (.int .u64 base))) (fun s => match s.tm 19 with | .d (.c (.string x)) => wd large - x.size | _ => 0) ?_ ?_
      · refine ⟨0, Nat.zero_le _, ?_⟩
        simp -dsimp -implicitDefEqProofs (disch := first | omega | (simp only [List.length_append, List.length_cons, List.length_nil, List.length_take, List.length_drop]; omega)) only [hs, zs, List.replicate_zero, List.append_nil, ↓aPre, aPost, oneW, allOne, retV, retVA, simprocAttr]
      rintro s ⟨j, hj, hs2⟩
      have ljj : (W.1 ++ zs j).length = W.1.length + j := by rw [List.length_append, zs, List.length_replicate]
      by_cases hjl : W.1.length + j < wd large
      · have e1 : W.1 ++ zs j ++ [0] = W.1 ++ zs (j + 1) := by rw [zs, zs, List.replicate_succ', List.append_assoc]
        have lj2 : (W.1 ++ zs (j + 1)).length = W.1.length + (j + 1) := by rw [List.length_append, zs, List.length_replicate]
        simp -dsimp -implicitDefEqProofs (disch := first | omega | (simp only [List.length_append, List.length_cons, List.length_nil, List.length_take, List.length_drop]; omega)) only [hs2, ljj, ↓aPre, aPost, oneW, allOne, retV, retVA, simprocAttr]
        refine round_of ⟨j + 1, by omega, ?_⟩ ?_
        · simp -dsimp -implicitDefEqProofs (disch := first | omega | (simp only [List.length_append, List.length_cons, List.length_nil, List.length_take, List.length_drop]; omega)) only [hs2, e1, ↓aPre, aPost, oneW, allOne, retV, retVA, simprocAttr]
        · simp -dsimp -implicitDefEqProofs (disch := first | omega | (simp only [List.length_append, List.length_cons, List.length_nil, List.length_take, List.length_drop]; omega)) only [hs2, e1, strOfNums_size, ljj, lj2, ↓aPre, aPost, oneW, allOne, retV, retVA, simprocAttr]
          omega
      · obtain rfl : j = wd large - W.1.length := by omega
        simp -dsimp -implicitDefEqProofs (disch := first | omega | (simp only [List.length_append, List.length_cons, List.length_nil, List.length_take, List.length_drop]; omega)) only [hs2, ljj, ↓aPre, aPost, oneW, allOne, retV, retVA, simprocAttr]
        refine round_of ⟨k + 1, out ++ (putL t 2 big ++ putL kd 2 big ++ putL v.length (wd large) big ++ W.1 ++ zs (wd large - W.1.length)), behind, bad, by omega, hSk, ?_, by omega, hev, ?_⟩ ?_
        · simp only [List.length_append, p1, p2, p3, zs, List.length_replicate]
          omega
        · simp -dsimp -implicitDefEqProofs (disch := first | omega | (simp only [List.length_append, List.length_cons, List.length_nil, List.length_take, List.length_drop]; omega)) only [hs2, List.append_assoc, ↓aPre, aPost, oneW, allOne, retV, retVA, simprocAttr]
        · simp -dsimp -implicitDefEqProofs (disch := first | omega | (simp only [List.length_append, List.length_cons, List.length_nil, List.length_take, List.length_drop]; omega)) only [hs, hs2, ↓aPre, aPost, oneW, allOne, retV, retVA, simprocAttr]
          omega
    rw [if_neg hw] at hSk
    have hwI : ¬ (W.1.length : Int) ≤ (wd large : Int) := by omega
    obtain ⟨p, hp⟩ : ∃ p, p = base + behind.length := ⟨_, rfl⟩
    have hbI2 : (base : Int) + (behind.length : Int) = (p : Int) := by omega
    rw [← hp] at hSk
    by_cases hov : 18446744073709551616 ≤ at_ + p
    · rw [if_pos hov] at hSk
      rw [hSk, if_pos (by decide)] at hR
      have ha := radd_o at_ p (by omega) (by omega) (by omega)
      simp -dsimp -implicitDefEqProofs (disch := first | omega | (simp only [List.length_append, List.length_cons, List.length_nil, List.length_take, List.length_drop]; omega)) only [hs, hlen, eg, ↓aPre, aPost, oneW, allOne, retV, retVA, simprocAttr]
      refine call_giv g35 ?_
      simp -dsimp -implicitDefEqProofs (disch := first | omega | (simp only [List.length_append, List.length_cons, List.length_nil, List.length_take, List.length_drop]; omega)) only [hs, hlen, eg, ↓aPre, aPost, oneW, allOne, retV, retVA, simprocAttr]
      refine call_giv q1 ?_
      simp -dsimp -implicitDefEqProofs (disch := first | omega | (simp only [List.length_append, List.length_cons, List.length_nil, List.length_take, List.length_drop]; omega)) only [hs, hlen, eg, ↓aPre, aPost, oneW, allOne, retV, retVA, simprocAttr]
      refine call_giv q2 ?_
      simp -dsimp -implicitDefEqProofs (disch := first | omega | (simp only [List.length_append, List.length_cons, List.length_nil, List.length_take, List.length_drop]; omega)) only [hs, hlen, eg, ↓aPre, aPost, oneW, allOne, retV, retVA, simprocAttr]
      refine call_giv q3 ?_
      simp -dsimp -implicitDefEqProofs (disch := first | omega | (simp only [List.length_append, List.length_cons, List.length_nil, List.length_take, List.length_drop]; omega)) only [hs, hwI, hbI2, ↓aPre, aPost, oneW, allOne, retV, retVA, simprocAttr]
      refine call_giv ha ?_
      simp -dsimp -implicitDefEqProofs (disch := first | omega | (simp only [List.length_append, List.length_cons, List.length_nil, List.length_take, List.length_drop]; omega)) only [hs, ↓aPre, aPost, oneW, allOne, retV, retVA, simprocAttr]
      exact post_eq (by rw [hR])
    rw [if_neg hov] at hSk
    have ha := radd_t at_ p (by omega) (by omega) (by omega)
    obtain ⟨q, hq⟩ : ∃ q, q = at_ + p := ⟨_, rfl⟩
    rw [show (at_ : Int) + (p : Int) = (q : Int) by omega] at ha
    rw [← hq] at hSk hov
    have hpt := (ptS_giv q (wd large) big (sized_wd large) (by omega)).2
    have hptl := ptS_len q (wd large) big
    obtain ⟨P, hP⟩ : ∃ P, P = ptS q (wd large) big := ⟨_, rfl⟩
    rw [← hP] at hpt hSk hptl
    have hm2 : ∀ n : Nat, (n : Int).tmod 2 = ((n % 2 : Nat) : Int) := fun n => by rw [Int.tmod_eq_emod_of_nonneg (by omega)]; omega
    have l5 : (behind ++ W.1).length = behind.length + W.1.length := List.length_append
    obtain ⟨nb, hnb⟩ : ∃ nb, nb = behind.length + W.1.length := ⟨_, rfl⟩
    have hm3 := hm2 nb
    have hnbI : (behind.length : Int) + (W.1.length : Int) = (nb : Int) := by omega
    have hzz : W.1.length % 2 = nb % 2 := by omega
    rw [hzz] at hSk
    by_cases hodd : nb % 2 = 1
    · rw [hodd] at hSk hm3
      by_cases hfi : q < 256 ^ wd large
      · rw [if_pos hfi] at hpt
        rw [decide_eq_false (fun c => c hfi), Bool.or_false] at hSk
        simp -dsimp -implicitDefEqProofs (disch := first | omega | (simp only [List.length_append, List.length_cons, List.length_nil, List.length_take, List.length_drop]; omega)) only [hs, hlen, eg, ↓aPre, aPost, oneW, allOne, retV, retVA, simprocAttr]
        refine call_giv g35 ?_
        simp -dsimp -implicitDefEqProofs (disch := first | omega | (simp only [List.length_append, List.length_cons, List.length_nil, List.length_take, List.length_drop]; omega)) only [hs, hlen, eg, ↓aPre, aPost, oneW, allOne, retV, retVA, simprocAttr]
        refine call_giv q1 ?_
        simp -dsimp -implicitDefEqProofs (disch := first | omega | (simp only [List.length_append, List.length_cons, List.length_nil, List.length_take, List.length_drop]; omega)) only [hs, hlen, eg, ↓aPre, aPost, oneW, allOne, retV, retVA, simprocAttr]
        refine call_giv q2 ?_
        simp -dsimp -implicitDefEqProofs (disch := first | omega | (simp only [List.length_append, List.length_cons, List.length_nil, List.length_take, List.length_drop]; omega)) only [hs, hlen, eg, ↓aPre, aPost, oneW, allOne, retV, retVA, simprocAttr]
        refine call_giv q3 ?_
        simp -dsimp -implicitDefEqProofs (disch := first | omega | (simp only [List.length_append, List.length_cons, List.length_nil, List.length_take, List.length_drop]; omega)) only [hs, hwI, hbI2, ↓aPre, aPost, oneW, allOne, retV, retVA, simprocAttr]
        refine call_giv ha ?_
        simp -dsimp -implicitDefEqProofs (disch := first | omega | (simp only [List.length_append, List.length_cons, List.length_nil, List.length_take, List.length_drop]; omega)) only [hs, ↓aPre, aPost, oneW, allOne, retV, retVA, simprocAttr]
        refine call_giv hpt ?_
        simp -dsimp -implicitDefEqProofs (disch := first | omega | (simp only [List.length_append, List.length_cons, List.length_nil, List.length_take, List.length_drop]; omega)) only [hs, hnbI, hm3, ↓aPre, aPost, oneW, allOne, retV, retVA, simprocAttr]
        refine round_of ⟨k + 1, out ++ (putL t 2 big ++ putL kd 2 big ++ putL v.length (wd large) big ++ P), behind ++ W.1 ++ zs 1, bad, by omega, hSk, ?_, ?_, ?_, ?_⟩ ?_
        · simp only [List.length_append, p1, p2, p3]
          omega
        · simp only [List.length_append, zs, List.length_replicate]
          omega
        · simp only [List.length_append, zs, List.length_replicate]
          omega
        · simp -dsimp -implicitDefEqProofs (disch := first | omega | (simp only [List.length_append, List.length_cons, List.length_nil, List.length_take, List.length_drop]; omega)) only [hs, List.append_assoc, zs, List.replicate_succ, List.replicate_zero, ↓aPre, aPost, oneW, allOne, retV, retVA, simprocAttr]
        · simp -dsimp -implicitDefEqProofs (disch := first | omega | (simp only [List.length_append, List.length_cons, List.length_nil, List.length_take, List.length_drop]; omega)) only [hs, ↓aPre, aPost, oneW, allOne, retV, retVA, simprocAttr]
          omega
      · rw [if_neg hfi] at hpt
        rw [decide_eq_true hfi, Bool.or_true] at hSk
        simp -dsimp -implicitDefEqProofs (disch := first | omega | (simp only [List.length_append, List.length_cons, List.length_nil, List.length_take, List.length_drop]; omega)) only [hs, hlen, eg, ↓aPre, aPost, oneW, allOne, retV, retVA, simprocAttr]
        refine call_giv g35 ?_
        simp -dsimp -implicitDefEqProofs (disch := first | omega | (simp only [List.length_append, List.length_cons, List.length_nil, List.length_take, List.length_drop]; omega)) only [hs, hlen, eg, ↓aPre, aPost, oneW, allOne, retV, retVA, simprocAttr]
        refine call_giv q1 ?_
        simp -dsimp -implicitDefEqProofs (disch := first | omega | (simp only [List.length_append, List.length_cons, List.length_nil, List.length_take, List.length_drop]; omega)) only [hs, hlen, eg, ↓aPre, aPost, oneW, allOne, retV, retVA, simprocAttr]
        refine call_giv q2 ?_
        simp -dsimp -implicitDefEqProofs (disch := first | omega | (simp only [List.length_append, List.length_cons, List.length_nil, List.length_take, List.length_drop]; omega)) only [hs, hlen, eg, ↓aPre, aPost, oneW, allOne, retV, retVA, simprocAttr]
        refine call_giv q3 ?_
        simp -dsimp -implicitDefEqProofs (disch := first | omega | (simp only [List.length_append, List.length_cons, List.length_nil, List.length_take, List.length_drop]; omega)) only [hs, hwI, hbI2, ↓aPre, aPost, oneW, allOne, retV, retVA, simprocAttr]
        refine call_giv ha ?_
        simp -dsimp -implicitDefEqProofs (disch := first | omega | (simp only [List.length_append, List.length_cons, List.length_nil, List.length_take, List.length_drop]; omega)) only [hs, ↓aPre, aPost, oneW, allOne, retV, retVA, simprocAttr]
        refine call_giv hpt ?_
        simp -dsimp -implicitDefEqProofs (disch := first | omega | (simp only [List.length_append, List.length_cons, List.length_nil, List.length_take, List.length_drop]; omega)) only [hs, hnbI, hm3, ↓aPre, aPost, oneW, allOne, retV, retVA, simprocAttr]
        refine round_of ⟨k + 1, out ++ (putL t 2 big ++ putL kd 2 big ++ putL v.length (wd large) big ++ P), behind ++ W.1 ++ zs 1, true, by omega, hSk, ?_, ?_, ?_, ?_⟩ ?_
        · simp only [List.length_append, p1, p2, p3]
          omega
        · simp only [List.length_append, zs, List.length_replicate]
          omega
        · simp only [List.length_append, zs, List.length_replicate]
          omega
        · simp -dsimp -implicitDefEqProofs (disch := first | omega | (simp only [List.length_append, List.length_cons, List.length_nil, List.length_take, List.length_drop]; omega)) only [hs, List.append_assoc, zs, List.replicate_succ, List.replicate_zero, ↓aPre, aPost, oneW, allOne, retV, retVA, simprocAttr]
        · simp -dsimp -implicitDefEqProofs (disch := first | omega | (simp only [List.length_append, List.length_cons, List.length_nil, List.length_take, List.length_drop]; omega)) only [hs, ↓aPre, aPost, oneW, allOne, retV, retVA, simprocAttr]
          omega
    · have hz0 : nb % 2 = 0 := by omega
      rw [hz0] at hSk hm3
      by_cases hfi : q < 256 ^ wd large
      · rw [if_pos hfi] at hpt
        rw [decide_eq_false (fun c => c hfi), Bool.or_false] at hSk
        simp -dsimp -implicitDefEqProofs (disch := first | omega | (simp only [List.length_append, List.length_cons, List.length_nil, List.length_take, List.length_drop]; omega)) only [hs, hlen, eg, ↓aPre, aPost, oneW, allOne, retV, retVA, simprocAttr]
        refine call_giv g35 ?_
        simp -dsimp -implicitDefEqProofs (disch := first | omega | (simp only [List.length_append, List.length_cons, List.length_nil, List.length_take, List.length_drop]; omega)) only [hs, hlen, eg, ↓aPre, aPost, oneW, allOne, retV, retVA, simprocAttr]
        refine call_giv q1 ?_
        simp -dsimp -implicitDefEqProofs (disch := first | omega | (simp only [List.length_append, List.length_cons, List.length_nil, List.length_take, List.length_drop]; omega)) only [hs, hlen, eg, ↓aPre, aPost, oneW, allOne, retV, retVA, simprocAttr]
        refine call_giv q2 ?_
        simp -dsimp -implicitDefEqProofs (disch := first | omega | (simp only [List.length_append, List.length_cons, List.length_nil, List.length_take, List.length_drop]; omega)) only [hs, hlen, eg, ↓aPre, aPost, oneW, allOne, retV, retVA, simprocAttr]
        refine call_giv q3 ?_
        simp -dsimp -implicitDefEqProofs (disch := first | omega | (simp only [List.length_append, List.length_cons, List.length_nil, List.length_take, List.length_drop]; omega)) only [hs, hwI, hbI2, ↓aPre, aPost, oneW, allOne, retV, retVA, simprocAttr]
        refine call_giv ha ?_
        simp -dsimp -implicitDefEqProofs (disch := first | omega | (simp only [List.length_append, List.length_cons, List.length_nil, List.length_take, List.length_drop]; omega)) only [hs, ↓aPre, aPost, oneW, allOne, retV, retVA, simprocAttr]
        refine call_giv hpt ?_
        simp -dsimp -implicitDefEqProofs (disch := first | omega | (simp only [List.length_append, List.length_cons, List.length_nil, List.length_take, List.length_drop]; omega)) only [hs, hnbI, hm3, Int.natCast_zero, ↓aPre, aPost, oneW, allOne, retV, retVA, simprocAttr]
        refine round_of ⟨k + 1, out ++ (putL t 2 big ++ putL kd 2 big ++ putL v.length (wd large) big ++ P), behind ++ W.1 ++ zs 0, bad, by omega, hSk, ?_, ?_, ?_, ?_⟩ ?_
        · simp only [List.length_append, p1, p2, p3]
          omega
        · simp only [List.length_append, zs, List.length_replicate]
          omega
        · simp only [List.length_append, zs, List.length_replicate]
          omega
        · simp -dsimp -implicitDefEqProofs (disch := first | omega | (simp only [List.length_append, List.length_cons, List.length_nil, List.length_take, List.length_drop]; omega)) only [hs, List.append_assoc, zs, List.replicate_zero, List.append_nil, ↓aPre, aPost, oneW, allOne, retV, retVA, simprocAttr]
        · simp -dsimp -implicitDefEqProofs (disch := first | omega | (simp only [List.length_append, List.length_cons, List.length_nil, List.length_take, List.length_drop]; omega)) only [hs, ↓aPre, aPost, oneW, allOne, retV, retVA, simprocAttr]
          omega
      · rw [if_neg hfi] at hpt
        rw [decide_eq_true hfi, Bool.or_true] at hSk
        simp -dsimp -implicitDefEqProofs (disch := first | omega | (simp only [List.length_append, List.length_cons, List.length_nil, List.length_take, List.length_drop]; omega)) only [hs, hlen, eg, ↓aPre, aPost, oneW, allOne, retV, retVA, simprocAttr]
        refine call_giv g35 ?_
        simp -dsimp -implicitDefEqProofs (disch := first | omega | (simp only [List.length_append, List.length_cons, List.length_nil, List.length_take, List.length_drop]; omega)) only [hs, hlen, eg, ↓aPre, aPost, oneW, allOne, retV, retVA, simprocAttr]
        refine call_giv q1 ?_
        simp -dsimp -implicitDefEqProofs (disch := first | omega | (simp only [List.length_append, List.length_cons, List.length_nil, List.length_take, List.length_drop]; omega)) only [hs, hlen, eg, ↓aPre, aPost, oneW, allOne, retV, retVA, simprocAttr]
        refine call_giv q2 ?_
        simp -dsimp -implicitDefEqProofs (disch := first | omega | (simp only [List.length_append, List.length_cons, List.length_nil, List.length_take, List.length_drop]; omega)) only [hs, hlen, eg, ↓aPre, aPost, oneW, allOne, retV, retVA, simprocAttr]
        refine call_giv q3 ?_
        simp -dsimp -implicitDefEqProofs (disch := first | omega | (simp only [List.length_append, List.length_cons, List.length_nil, List.length_take, List.length_drop]; omega)) only [hs, hwI, hbI2, ↓aPre, aPost, oneW, allOne, retV, retVA, simprocAttr]
        refine call_giv ha ?_
        simp -dsimp -implicitDefEqProofs (disch := first | omega | (simp only [List.length_append, List.length_cons, List.length_nil, List.length_take, List.length_drop]; omega)) only [hs, ↓aPre, aPost, oneW, allOne, retV, retVA, simprocAttr]
        refine call_giv hpt ?_
        simp -dsimp -implicitDefEqProofs (disch := first | omega | (simp only [List.length_append, List.length_cons, List.length_nil, List.length_take, List.length_drop]; omega)) only [hs, hnbI, hm3, Int.natCast_zero, ↓aPre, aPost, oneW, allOne, retV, retVA, simprocAttr]
        refine round_of ⟨k + 1, out ++ (putL t 2 big ++ putL kd 2 big ++ putL v.length (wd large) big ++ P), behind ++ W.1 ++ zs 0, true, by omega, hSk, ?_, ?_, ?_, ?_⟩ ?_
        · simp only [List.length_append, p1, p2, p3]
          omega
        · simp only [List.length_append, zs, List.length_replicate]
          omega
        · simp only [List.length_append, zs, List.length_replicate]
          omega
        · simp -dsimp -implicitDefEqProofs (disch := first | omega | (simp only [List.length_append, List.length_cons, List.length_nil, List.length_take, List.length_drop]; omega)) only [hs, List.append_assoc, zs, List.replicate_zero, List.append_nil, ↓aPre, aPost, oneW, allOne, retV, retVA, simprocAttr]
        · simp -dsimp -implicitDefEqProofs (disch := first | omega | (simp only [List.length_append, List.length_cons, List.length_nil, List.length_take, List.length_drop]; omega)) only [hs, ↓aPre, aPost, oneW, allOne, retV, retVA, simprocAttr]
          omega
  · obtain rfl : k = l.length := by omega
    rw [List.drop_length, wrS] at hSk
    rw [hSk, if_neg (fun c => c rfl)] at hR
    dsimp only at hR
    by_cases hfi : next < 256 ^ wd large
    · have hpt := rput_ok big (sized_wd large) hnx hfi
      cases bad
      · rw [if_neg (fun c => c.elim (by decide) (fun c => c hfi))] at hR
        have p4 := putL_len next (wd large) big
        simp -dsimp -implicitDefEqProofs (disch := first | omega | (simp only [List.length_append, List.length_cons, List.length_nil, List.length_take, List.length_drop]; omega)) only [hs, hlen, ↓aPre, aPost, oneW, allOne, retV, retVA, simprocAttr]
        refine call_giv hpt ?_
        simp -dsimp -implicitDefEqProofs (disch := first | omega | (simp only [List.length_append, List.length_cons, List.length_nil, List.length_take, List.length_drop]; omega)) only [hs, p4, ↓aPre, aPost, oneW, allOne, retV, retVA, simprocAttr]
        exact post_eq (by rw [hR])
      · rw [if_pos (.inl rfl)] at hR
        simp -dsimp -implicitDefEqProofs (disch := first | omega | (simp only [List.length_append, List.length_cons, List.length_nil, List.length_take, List.length_drop]; omega)) only [hs, hlen, ↓aPre, aPost, oneW, allOne, retV, retVA, simprocAttr]
        refine call_giv hpt ?_
        simp -dsimp -implicitDefEqProofs (disch := first | omega | (simp only [List.length_append, List.length_cons, List.length_nil, List.length_take, List.length_drop]; omega)) only [hs, ↓aPre, aPost, oneW, allOne, retV, retVA, simprocAttr]
        exact post_eq (by rw [hR])
    · have hpt := rput_no big (sized_wd large) hnx hfi
      rw [if_pos (.inr hfi)] at hR
      cases bad
      all_goals
        simp -dsimp -implicitDefEqProofs (disch := first | omega | (simp only [List.length_append, List.length_cons, List.length_nil, List.length_take, List.length_drop]; omega)) only [hs, hlen, ↓aPre, aPost, oneW, allOne, retV, retVA, simprocAttr]
        refine call_giv hpt ?_
        simp -dsimp -implicitDefEqProofs (disch := first | omega | (simp only [List.length_append, List.length_cons, List.length_nil, List.length_take, List.length_drop]; omega)) only [hs, ↓aPre, aPost, oneW, allOne, retV, retVA, simprocAttr]
        exact post_eq (by rw [hR])
end Go.Proofs.Ytkdkhngdilhneaa
