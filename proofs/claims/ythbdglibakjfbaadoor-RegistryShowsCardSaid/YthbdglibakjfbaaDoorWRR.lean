/- All rules, by any tag and by any name: the statement's function, given the chapter's example. -/
import Derived.Test.YthbdglibakjfbaaDoorWFind
set_option linter.unusedSimpArgs false
set_option linter.unusedVariables false
set_option maxRecDepth 8000
set_option maxHeartbeats 4000000
set_option linter.unusedSectionVars false
namespace Go.Proofs.YthbdglibakjfbaaDoor
open Go.Eng Go.RowKit
variable [Inhabited Lo]
def a3 : AFn := ⟨161, (.seq (.ops [⟨(.some 4), (.mov (.const (.bool false))), .none⟩]) (.seq (.ops [⟨(.some 19), (.call 19 5 []), .none⟩, ⟨(.some 20), (.call 20 6 []), .none⟩, ⟨(.some 5), (.mov (.tmp 19)), .none⟩, ⟨(.some 6), (.mov (.tmp 20)), .none⟩]) (.seq (.seq (.ops [⟨(.some 21), (.call 21 7 []), .none⟩, ⟨(.some 22), (.un .not (.tmp 21)), .none⟩, ⟨(.some 23), (.mov (.tmp 22)), .none⟩, ⟨(.some 24), (.mov (.tmp 5)), (.some (23, false))⟩, ⟨(.some 25), (.len (.tmp 24)), (.some (23, false))⟩, ⟨(.some 26), (.mov (.tmp 6)), (.some (23, false))⟩, ⟨(.some 27), (.len (.tmp 26)), (.some (23, false))⟩, ⟨(.some 28), (.bin .neq (.tmp 25) (.tmp 27)), (.some (23, false))⟩, ⟨(.some 29), (.pick (.tmp 23) (.const (.bool true)) (.tmp 28)), .none⟩]) (.cond (.tmp 29) (.seq (.ops [⟨(.some 4), (.mov (.const (.bool false))), .none⟩]) .ret) .skip)) (.seq (.ops [⟨(.some 7), (.mov (.const (.int .i64 (-1)))), .none⟩]) (.seq (.seq (.ops [⟨(.some 30), (.mov (.tmp 5)), .none⟩, ⟨(.some 31), (.len (.tmp 30)), .none⟩, ⟨(.some 32), (.mov (.const (.int .i64 0))), .none⟩]) (.block 0 (.loop (.seq (.ops [⟨(.some 33), (.bin .lss (.tmp 32) (.tmp 31)), .none⟩]) (.seq (.cond (.tmp 33) .skip (.exit 0)) (.seq (.block 1 (.seq (.ops [⟨(.some 34), (.mov (.tmp 32)), .none⟩, ⟨(.some 8), (.mov (.tmp 34)), .none⟩]) (.seq (.seq (.draw [(⟨(.some 35), (.mov (.tmp 5)), .none⟩, (false, [])), (⟨(.some 36), (.mov (.tmp 8)), .none⟩, (false, [])), (⟨(.some 37), (.iadr 4 (.tmp 35) (.tmp 36)), .none⟩, (false, [])), (⟨(.some 38), (.ldn 4 (.tmp 37)), .none⟩, (false, [])), (⟨(.some 39), (.mov (.tmp 6)), .none⟩, (false, [])), (⟨(.some 40), (.mov (.tmp 8)), .none⟩, (false, [])), (⟨(.some 41), (.iadr 4 (.tmp 39) (.tmp 40)), .none⟩, (false, [])), (⟨(.some 42), (.ldn 4 (.tmp 41)), .none⟩, (false, [])), (⟨(.some 43), (.call 43 8 [(.tmp 38), (.tmp 42)]), .none⟩, (false, [9, 11, 13, 15, 18])), (⟨(.some 44), (.un .not (.tmp 43)), .none⟩, (false, []))]) (.cond (.tmp 44) (.seq (.ops [⟨(.some 4), (.mov (.const (.bool false))), .none⟩]) .ret) .skip)) (.seq (.seq (.ops [⟨(.some 45), (.mov (.tmp 6)), .none⟩, ⟨(.some 46), (.mov (.tmp 8)), .none⟩, ⟨(.some 47), (.iadr 4 (.tmp 45) (.tmp 46)), .none⟩, ⟨(.some 48), (.fadr 1 (.tmp 47)), .none⟩, ⟨(.some 49), (.ld (.tmp 48)), .none⟩, ⟨(.some 50), (.mov (.tmp 1)), .none⟩, ⟨(.some 51), (.bin .eql (.tmp 49) (.tmp 50)), .none⟩]) (.cond (.tmp 51) (.ops [⟨(.some 52), (.mov (.tmp 8)), .none⟩, ⟨(.some 7), (.mov (.tmp 52)), .none⟩]) .skip)) (.seq (.ops [⟨(.some 54), (.mov (.tmp 6)), .none⟩, ⟨(.some 55), (.mov (.tmp 8)), .none⟩, ⟨(.some 56), (.iadr 4 (.tmp 54) (.tmp 55)), .none⟩, ⟨(.some 57), (.fadr 1 (.tmp 56)), .none⟩, ⟨(.some 58), (.ld (.tmp 57)), .none⟩, ⟨(.some 59), (.call 59 9 [(.tmp 58)]), .none⟩, ⟨(.some 53), (.mov (.tmp 59)), .none⟩, ⟨(.some 60), (.ext (.tmp 53) 0), .none⟩, ⟨(.some 61), (.ext (.tmp 53) 1), .none⟩, ⟨(.some 9), (.alloc 9 [(.int .u16 0), (.string (strOfNums [])), (.slice .none 0 0), (.int .i64 0)]), .none⟩, ⟨.none, (.st 4 (.tmp 9) (.tmp 60)), .none⟩, ⟨(.some 10), (.mov (.tmp 61)), .none⟩]) (.seq (.ops [⟨(.some 63), (.mov (.tmp 6)), .none⟩, ⟨(.some 64), (.mov (.tmp 8)), .none⟩, ⟨(.some 65), (.iadr 4 (.tmp 63) (.tmp 64)), .none⟩, ⟨(.some 66), (.fadr 0 (.tmp 65)), .none⟩, ⟨(.some 67), (.ld (.tmp 66)), .none⟩, ⟨(.some 68), (.cvI .u16 (.tmp 67)), .none⟩, ⟨(.some 69), (.call 69 10 [(.tmp 68)]), .none⟩, ⟨(.some 62), (.mov (.tmp 69)), .none⟩, ⟨(.some 70), (.ext (.tmp 62) 0), .none⟩, ⟨(.some 71), (.ext (.tmp 62) 1), .none⟩, ⟨(.some 11), (.alloc 11 [(.int .u16 0), (.string (strOfNums [])), (.slice .none 0 0), (.int .i64 0)]), .none⟩, ⟨.none, (.st 4 (.tmp 11) (.tmp 70)), .none⟩, ⟨(.some 12), (.mov (.tmp 71)), .none⟩]) (.seq (.draw [(⟨(.some 72), (.mov (.tmp 10)), .none⟩, (false, [])), (⟨(.some 73), (.un .not (.tmp 72)), .none⟩, (false, [])), (⟨(.some 74), (.mov (.tmp 73)), .none⟩, (false, [])), (⟨(.some 75), (.mov (.tmp 12)), (.some (74, false))⟩, (false, [])), (⟨(.some 76), (.un .not (.tmp 75)), (.some (74, false))⟩, (false, [])), (⟨(.some 77), (.pick (.tmp 74) (.const (.bool true)) (.tmp 76)), .none⟩, (false, [])), (⟨(.some 78), (.mov (.tmp 77)), .none⟩, (false, [])), (⟨(.some 79), (.ldn 4 (.tmp 9)), (.some (78, false))⟩, (false, [])), (⟨(.some 80), (.mov (.tmp 6)), (.some (78, false))⟩, (false, [])), (⟨(.some 81), (.mov (.tmp 8)), (.some (78, false))⟩, (false, [])), (⟨(.some 82), (.iadr 4 (.tmp 80) (.tmp 81)), (.some (78, false))⟩, (false, [])), (⟨(.some 83), (.ldn 4 (.tmp 82)), (.some (78, false))⟩, (false, [])), (⟨(.some 84), (.call 84 8 [(.tmp 79), (.tmp 83)]), (.some (78, false))⟩, (false, [9, 11, 13, 15, 18])), (⟨(.some 85), (.un .not (.tmp 84)), (.some (78, false))⟩, (false, [])), (⟨(.some 86), (.pick (.tmp 78) (.const (.bool true)) (.tmp 85)), .none⟩, (false, [])), (⟨(.some 87), (.mov (.tmp 86)), .none⟩, (false, [])), (⟨(.some 88), (.ldn 4 (.tmp 11)), (.some (87, false))⟩, (false, [])), (⟨(.some 89), (.mov (.tmp 6)), (.some (87, false))⟩, (false, [])), (⟨(.some 90), (.mov (.tmp 8)), (.some (87, false))⟩, (false, [])), (⟨(.some 91), (.iadr 4 (.tmp 89) (.tmp 90)), (.some (87, false))⟩, (false, [])), (⟨(.some 92), (.ldn 4 (.tmp 91)), (.some (87, false))⟩, (false, [])), (⟨(.some 93), (.call 93 8 [(.tmp 88), (.tmp 92)]), (.some (87, false))⟩, (false, [9, 11, 13, 15, 18])), (⟨(.some 94), (.un .not (.tmp 93)), (.some (87, false))⟩, (false, [])), (⟨(.some 95), (.pick (.tmp 87) (.const (.bool true)) (.tmp 94)), .none⟩, (false, []))]) (.cond (.tmp 95) (.seq (.ops [⟨(.some 4), (.mov (.const (.bool false))), .none⟩]) .ret) .skip)))))))) (.ops [⟨(.some 96), (.bin .add (.tmp 32) (.const (.int .i64 1))), .none⟩, ⟨(.some 32), (.mov (.tmp 96)), .none⟩]))))))) (.seq (.ops [⟨(.some 98), (.mov (.tmp 0)), .none⟩, ⟨(.some 99), (.call 99 10 [(.tmp 98)]), .none⟩, ⟨(.some 97), (.mov (.tmp 99)), .none⟩, ⟨(.some 100), (.ext (.tmp 97) 0), .none⟩, ⟨(.some 101), (.ext (.tmp 97) 1), .none⟩, ⟨(.some 13), (.alloc 13 [(.int .u16 0), (.string (strOfNums [])), (.slice .none 0 0), (.int .i64 0)]), .none⟩, ⟨.none, (.st 4 (.tmp 13) (.tmp 100)), .none⟩, ⟨(.some 14), (.mov (.tmp 101)), .none⟩]) (.seq (.ops [⟨(.some 103), (.mov (.tmp 1)), .none⟩, ⟨(.some 104), (.call 104 9 [(.tmp 103)]), .none⟩, ⟨(.some 102), (.mov (.tmp 104)), .none⟩, ⟨(.some 105), (.ext (.tmp 102) 0), .none⟩, ⟨(.some 106), (.ext (.tmp 102) 1), .none⟩, ⟨(.some 15), (.alloc 15 [(.int .u16 0), (.string (strOfNums [])), (.slice .none 0 0), (.int .i64 0)]), .none⟩, ⟨.none, (.st 4 (.tmp 15) (.tmp 105)), .none⟩, ⟨(.some 16), (.mov (.tmp 106)), .none⟩]) (.seq (.ops [⟨(.some 107), (.mov (.tmp 0)), .none⟩, ⟨(.some 108), (.cvI .i64 (.tmp 107)), .none⟩, ⟨(.some 109), (.call 109 11 [(.tmp 108)]), .none⟩, ⟨(.some 17), (.mov (.tmp 109)), .none⟩]) (.seq (.seq (.ops [⟨(.some 110), (.mov (.tmp 14)), .none⟩, ⟨(.some 111), (.mov (.tmp 17)), .none⟩, ⟨(.some 112), (.bin .geq (.tmp 111) (.const (.int .i64 0))), .none⟩, ⟨(.some 113), (.eqB true (.tmp 110) (.tmp 112)), .none⟩, ⟨(.some 114), (.mov (.tmp 113)), .none⟩, ⟨(.some 115), (.mov (.tmp 16)), (.some (114, false))⟩, ⟨(.some 116), (.mov (.tmp 7)), (.some (114, false))⟩, ⟨(.some 117), (.bin .geq (.tmp 116) (.const (.int .i64 0))), (.some (114, false))⟩, ⟨(.some 118), (.eqB true (.tmp 115) (.tmp 117)), (.some (114, false))⟩, ⟨(.some 119), (.pick (.tmp 114) (.const (.bool true)) (.tmp 118)), .none⟩]) (.cond (.tmp 119) (.seq (.ops [⟨(.some 4), (.mov (.const (.bool false))), .none⟩]) .ret) .skip)) (.seq (.ops [⟨(.some 120), (.build [(.int .i64 0), (.string (strOfNums [])), (.slice .none 0 0), (.int .i64 0)] []), .none⟩, ⟨(.some 18), (.alloc 18 [(.int .i64 0), (.string (strOfNums [])), (.slice .none 0 0), (.int .i64 0)]), .none⟩, ⟨.none, (.st 4 (.tmp 18) (.tmp 120)), .none⟩]) (.seq (.draw [(⟨(.some 121), (.mov (.tmp 14)), .none⟩, (false, [])), (⟨(.some 122), (.mov (.tmp 121)), .none⟩, (false, [])), (⟨(.some 123), (.ldn 4 (.tmp 13)), (.some (122, true))⟩, (false, [])), (⟨(.some 124), (.mov (.tmp 6)), (.some (122, true))⟩, (false, [])), (⟨(.some 125), (.mov (.tmp 17)), (.some (122, true))⟩, (false, [])), (⟨(.some 126), (.mm true (.tmp 125) [(.const (.int .i64 0))]), (.some (122, true))⟩, (false, [])), (⟨(.some 127), (.iadr 4 (.tmp 124) (.tmp 126)), (.some (122, true))⟩, (false, [])), (⟨(.some 128), (.ldn 4 (.tmp 127)), (.some (122, true))⟩, (false, [])), (⟨(.some 129), (.call 129 8 [(.tmp 123), (.tmp 128)]), (.some (122, true))⟩, (false, [9, 11, 13, 15, 18])), (⟨(.some 130), (.pick (.tmp 122) (.tmp 129) (.const (.bool false))), .none⟩, (false, [])), (⟨(.some 131), (.mov (.tmp 130)), .none⟩, (false, [])), (⟨(.some 132), (.mov (.tmp 14)), (.some (131, false))⟩, (false, [])), (⟨(.some 133), (.un .not (.tmp 132)), (.some (131, false))⟩, (false, [])), (⟨(.some 134), (.mov (.tmp 133)), (.some (131, false))⟩, (false, [])), (⟨(.some 135), (.ldn 4 (.tmp 13)), (.some (134, true))⟩, (false, [])), (⟨(.some 136), (.ldn 4 (.tmp 18)), (.some (134, true))⟩, (false, [])), (⟨(.some 137), (.call 137 8 [(.tmp 135), (.tmp 136)]), (.some (134, true))⟩, (false, [9, 11, 13, 15, 18])), (⟨(.some 138), (.pick (.tmp 134) (.tmp 137) (.const (.bool false))), (.some (131, false))⟩, (false, [])), (⟨(.some 139), (.pick (.tmp 131) (.const (.bool true)) (.tmp 138)), .none⟩, (false, [])), (⟨(.some 140), (.mov (.tmp 139)), .none⟩, (false, [])), (⟨(.some 141), (.mov (.tmp 16)), (.some (140, true))⟩, (false, [])), (⟨(.some 142), (.mov (.tmp 141)), (.some (140, true))⟩, (false, [])), (⟨(.some 143), (.ldn 4 (.tmp 15)), (.some (142, true))⟩, (false, [])), (⟨(.some 144), (.mov (.tmp 6)), (.some (142, true))⟩, (false, [])), (⟨(.some 145), (.mov (.tmp 7)), (.some (142, true))⟩, (false, [])), (⟨(.some 146), (.mm true (.tmp 145) [(.const (.int .i64 0))]), (.some (142, true))⟩, (false, [])), (⟨(.some 147), (.iadr 4 (.tmp 144) (.tmp 146)), (.some (142, true))⟩, (false, [])), (⟨(.some 148), (.ldn 4 (.tmp 147)), (.some (142, true))⟩, (false, [])), (⟨(.some 149), (.call 149 8 [(.tmp 143), (.tmp 148)]), (.some (142, true))⟩, (false, [9, 11, 13, 15, 18])), (⟨(.some 150), (.pick (.tmp 142) (.tmp 149) (.const (.bool false))), (.some (140, true))⟩, (false, [])), (⟨(.some 151), (.mov (.tmp 150)), (.some (140, true))⟩, (false, [])), (⟨(.some 152), (.mov (.tmp 16)), (.some (151, false))⟩, (false, [])), (⟨(.some 153), (.un .not (.tmp 152)), (.some (151, false))⟩, (false, [])), (⟨(.some 154), (.mov (.tmp 153)), (.some (151, false))⟩, (false, [])), (⟨(.some 155), (.ldn 4 (.tmp 15)), (.some (154, true))⟩, (false, [])), (⟨(.some 156), (.ldn 4 (.tmp 18)), (.some (154, true))⟩, (false, [])), (⟨(.some 157), (.call 157 8 [(.tmp 155), (.tmp 156)]), (.some (154, true))⟩, (false, [9, 11, 13, 15, 18])), (⟨(.some 158), (.pick (.tmp 154) (.tmp 157) (.const (.bool false))), (.some (151, false))⟩, (false, [])), (⟨(.some 159), (.pick (.tmp 151) (.const (.bool true)) (.tmp 158)), (.some (140, true))⟩, (false, [])), (⟨(.some 160), (.pick (.tmp 140) (.tmp 159) (.const (.bool false))), .none⟩, (false, [])), (⟨(.some 4), (.mov (.tmp 160)), .none⟩, (false, []))]) .ret))))))))))), [(4, .none)]⟩
theorem c3 : cmpF Tryd.prog [] [] 3 = some a3 := by kernel_rfl
def okR (y : Ru) : Bool := y.2.1.all (fun z => decide (0 ≤ z ∧ z < 256)) && decide (y.2.2.1.length ≤ 1000) && decide (0 ≤ y.1 ∧ y.1 < 65536)
theorem okR_all : ruls.all okR = true := by decide +kernel
theorem ix_names : (List.range 55).all (fun k => decide (ix (fun y => decide (y.2.1 = (ruls.getD k ru0).2.1)) ruls 0 = k)) = true := by decide +kernel
theorem ix_tags : (List.range 55).all (fun k => decide (ix (fun y => decide (y.1 = (ruls.getD k ru0).1)) ruls 0 = k)) = true := by decide +kernel
theorem okR_of {y : Ru} (h : okR y = true) : (0 ≤ y.1 ∧ y.1 < 65536) ∧ Bytes y.2.1 ∧ y.2.2.1.length ≤ 1000 := by
  unfold okR at h
  simp only [Bool.and_eq_true, decide_eq_true_eq, List.all_eq_true] at h
  exact ⟨h.2, h.1.1, h.1.2⟩
theorem ok_mem {y : Ru} (h : y ∈ ruls) : okR y = true := (List.all_eq_true.1 okR_all) y h
theorem ok_get {k : Nat} (h : k < 55) : okR (ruls.getD k ru0) = true := by
  have h' : k < ruls.length := by rw [ruls_len]; exact h
  refine ok_mem ?_
  simp only [List.getD, List.getElem?_eq_getElem h', Option.getD_some]
  exact List.getElem_mem _
theorem names_b : ∀ y ∈ ruls, Bytes y.2.1 := fun y h => (okR_of (ok_mem h)).2.1
theorem ixn {k : Nat} (h : k < 55) : ix (fun y => decide (y.2.1 = (ruls.getD k ru0).2.1)) ruls 0 = k := by
  have := (List.all_eq_true.1 ix_names) k (List.mem_range.2 h)
  simpa using this
theorem ixt {k : Nat} (h : k < 55) : ix (fun y => decide (y.1 = (ruls.getD k ru0).1)) ruls 0 = k := by
  have := (List.all_eq_true.1 ix_tags) k (List.mem_range.2 h)
  simpa using this
theorem fnd_nat {k : Nat} : fndR ruls (k : Int) = ruls.getD k ru0 := by
  unfold fndR
  rw [if_neg (by omega)]; rfl
/-- the name's place among the first k -/
def nmd (s : List Int) (k : Nat) : Int := if ix (fun y => decide (y.2.1 = s)) ruls 0 < k then ix (fun y => decide (y.2.1 = s)) ruls 0 else -1
theorem nmd_zero (s : List Int) : nmd s 0 = -1 := by
  unfold nmd
  rcases ix_get (fun y => decide (y.2.1 = s)) ruls 0 with e | ⟨k, h1, h2, h3⟩
  · rw [e]; rfl
  · rw [if_neg (by omega)]
theorem nmd_hit {s : List Int} {k : Nat} (hk : k < 55) (h : (ruls.getD k ru0).2.1 = s) : nmd s (k + 1) = k := by
  subst h
  unfold nmd
  rw [ixn hk, if_pos (by omega)]
theorem nmd_miss {s : List Int} {k : Nat} (hk : k < 55) (h : ¬ (ruls.getD k ru0).2.1 = s) : nmd s (k + 1) = nmd s k := by
  unfold nmd
  rcases ix_get (fun y => decide (y.2.1 = s)) ruls 0 with e | ⟨j, h1, h2, h3⟩
  · rw [e, if_pos (by omega), if_pos (by omega)]
  · rw [h2]
    have : ¬ j = k := fun e => h (by rw [e] at h3; simpa using h3)
    simp only [Nat.zero_add]
    by_cases hj : j < k
    · rw [if_pos (by omega), if_pos (by omega)]
    · rw [if_neg (by omega), if_neg (by omega)]
theorem nmd_end (s : List Int) : nmd s 55 = ix (fun y => decide (y.2.1 = s)) ruls 0 := by
  unfold nmd
  rcases ix_get (fun y => decide (y.2.1 = s)) ruls 0 with e | ⟨j, h1, h2, h3⟩
  · rw [e]; rfl
  · rw [if_pos]; rw [ruls_len] at h1; omega
theorem same_get {k : Nat} (h : k < 55) : Giv Tryd.prog 8 [ruD (ruls.getD k ru0), rrD (ruls.getD k ru0)] (retV [.c (.bool true)]) := by
  have := okR_of (ok_get h)
  exact same_giv _ this.1 this.2.1 this.2.2
theorem registryRules_of (hlives : Giv Tryd.prog 7 [] (retV [.c (.bool true)])) (y0 : Int) (h0 : (0 ≤ y0 ∧ y0 ≤ 65535)) (y1 : ByteArray) : Giv Tryd.prog 3 [.c (.int .u16 y0), .c (.string y1)] (.d (.c (.bool true))) := by
  have hb := nums_bytes y1
  obtain ⟨s1, hle⟩ : ∃ l, l = nums y1 := ⟨_, rfl⟩
  rw [nums_str y1]
  rw [← hle] at hb ⊢
  clear hle
  have hrl := rusD_len ruls
  have hrr := rrsD_len ruls
  have hr55 := ruls_len
  refine Giv.of (out := [.c (.bool true)]) mixed c3 (Nat.le_of_ble_eq_true rfl) ?_
  simp -dsimp -implicitDefEqProofs (disch := first | omega | (simp only [List.length_append, List.length_cons, List.length_nil, List.length_take, List.length_drop]; omega)) only [a3, ↓aPre, aPost, oneW, allOne, retV, retVA, simprocAttr]
  refine call_giv rules_giv ?_
  simp -dsimp -implicitDefEqProofs (disch := first | omega | (simp only [List.length_append, List.length_cons, List.length_nil, List.length_take, List.length_drop]; omega)) only [↓aPre, aPost, oneW, allOne, retV, retVA, simprocAttr]
  refine call_giv rr_giv ?_
  simp -dsimp -implicitDefEqProofs (disch := first | omega | (simp only [List.length_append, List.length_cons, List.length_nil, List.length_take, List.length_drop]; omega)) only [↓aPre, aPost, oneW, allOne, retV, retVA, simprocAttr]
  refine call_giv hlives ?_
  simp -dsimp -implicitDefEqProofs (disch := first | omega | (simp only [List.length_append, List.length_cons, List.length_nil, List.length_take, List.length_drop]; omega)) only [hrl, hrr, hr55, ibne_f (rfl : (55 : Int) = 55), ↓aPre, aPost, oneW, allOne, retV, retVA, simprocAttr]
  refine loop_of (fun s => ∃ (k : Nat), k ≤ 55 ∧ s.tm 0 = .d (.c (.int .u16 y0)) ∧ s.tm 1 = .d (.c (.string (strOfNums s1))) ∧ s.tm 5 = .d (.lst 4 (rusD ruls)) ∧ s.tm 6 = .d (.lst 4 (rrsD ruls)) ∧ s.tm 7 = .d (.c (.int .i64 (nmd s1 k))) ∧ s.tm 31 = .d (.c (.int .i64 55)) ∧ s.tm 32 = .d (.c (.int .i64 k))) (fun s => 55 - (avN (s.tm 32)).toNat) ?_ ?_
  · refine ⟨0, Nat.zero_le _, ?_⟩
    simp -dsimp -implicitDefEqProofs (disch := first | omega | (simp only [List.length_append, List.length_cons, List.length_nil, List.length_take, List.length_drop]; omega)) only [Int.natCast_zero, nmd_zero, ↓aPre, aPost, oneW, allOne, retV, retVA, simprocAttr]
  rintro s ⟨k, hk, hs⟩
  by_cases hlt : k < 55
  · have hsame := same_get hlt
    have ho := okR_of (ok_get hlt)
    have hnm := byname_giv names_b ho.2.1
    have htg := find_giv (ruls.getD k ru0).1
    rw [ixn hlt, fnd_nat, decide_eq_true (by omega)] at hnm
    rw [ixt hlt, fnd_nat, decide_eq_true (by omega)] at htg
    have hsb := str_beq ho.2.1 hb
    have hh := nmd_hit hlt (s := s1)
    have hm := nmd_miss hlt (s := s1)
    have hd1 := rusD_get (l := ruls) (i := k) (by omega)
    have hd2 := rrsD_get (l := ruls) (i := k) (by omega)
    obtain ⟨y, hy⟩ : ∃ y, y = ruls.getD k ru0 := ⟨_, rfl⟩
    rw [← hy] at hsame ho hnm htg hsb hh hm hd1 hd2
    have ho1 := ho.1
    unfold ruD at hsame hnm htg
    unfold rrD at hsame
    simp -dsimp -implicitDefEqProofs (disch := first | omega | (simp only [List.length_append, List.length_cons, List.length_nil, List.length_take, List.length_drop]; omega)) only [hs, hrl, hrr, hr55, hd1, hd2, ↓aPre, aPost, oneW, allOne, retV, retVA, simprocAttr]
    refine call_giv hsame ?_
    by_cases hn : y.2.1 = s1
    · have hq := hh hn
      rw [decide_eq_true hn] at hsb
      simp -dsimp -implicitDefEqProofs (disch := first | omega | (simp only [List.length_append, List.length_cons, List.length_nil, List.length_take, List.length_drop]; omega)) only [hs, hrl, hrr, hr55, hd1, hd2, hsb, ↓aPre, aPost, oneW, allOne, retV, retVA, simprocAttr]
      refine call_giv hnm ?_
      simp -dsimp -implicitDefEqProofs (disch := first | omega | (simp only [List.length_append, List.length_cons, List.length_nil, List.length_take, List.length_drop]; omega)) only [hs, hrl, hrr, hr55, hd1, hd2, hsb, ↓aPre, aPost, oneW, allOne, retV, retVA, simprocAttr]
      refine call_giv htg ?_
      simp -dsimp -implicitDefEqProofs (disch := first | omega | (simp only [List.length_append, List.length_cons, List.length_nil, List.length_take, List.length_drop]; omega)) only [hs, hrl, hrr, hr55, hd1, hd2, hsb, ↓aPre, aPost, oneW, allOne, retV, retVA, simprocAttr]
      refine call_giv hsame ?_
      simp -dsimp -implicitDefEqProofs (disch := first | omega | (simp only [List.length_append, List.length_cons, List.length_nil, List.length_take, List.length_drop]; omega)) only [hs, hrl, hrr, hr55, hd1, hd2, hsb, ↓aPre, aPost, oneW, allOne, retV, retVA, simprocAttr]
      refine call_giv hsame ?_
      simp -dsimp -implicitDefEqProofs (disch := first | omega | (simp only [List.length_append, List.length_cons, List.length_nil, List.length_take, List.length_drop]; omega)) only [hs, hrl, hrr, hr55, hd1, hd2, hsb, ↓aPre, aPost, oneW, allOne, retV, retVA, simprocAttr]
      refine round_of ⟨k + 1, by omega, ?_⟩ ?_
      · simp -dsimp -implicitDefEqProofs (disch := first | omega | (simp only [List.length_append, List.length_cons, List.length_nil, List.length_take, List.length_drop]; omega)) only [hs, hq, ↓aPre, aPost, oneW, allOne, retV, retVA, simprocAttr]
      · simp -dsimp -implicitDefEqProofs (disch := first | omega | (simp only [List.length_append, List.length_cons, List.length_nil, List.length_take, List.length_drop]; omega)) only [hs, ↓aPre, aPost, oneW, allOne, retV, retVA, simprocAttr]
        omega
    · have hq := hm hn
      rw [decide_eq_false hn] at hsb
      simp -dsimp -implicitDefEqProofs (disch := first | omega | (simp only [List.length_append, List.length_cons, List.length_nil, List.length_take, List.length_drop]; omega)) only [hs, hrl, hrr, hr55, hd1, hd2, hsb, ↓aPre, aPost, oneW, allOne, retV, retVA, simprocAttr]
      refine call_giv hnm ?_
      simp -dsimp -implicitDefEqProofs (disch := first | omega | (simp only [List.length_append, List.length_cons, List.length_nil, List.length_take, List.length_drop]; omega)) only [hs, hrl, hrr, hr55, hd1, hd2, hsb, ↓aPre, aPost, oneW, allOne, retV, retVA, simprocAttr]
      refine call_giv htg ?_
      simp -dsimp -implicitDefEqProofs (disch := first | omega | (simp only [List.length_append, List.length_cons, List.length_nil, List.length_take, List.length_drop]; omega)) only [hs, hrl, hrr, hr55, hd1, hd2, hsb, ↓aPre, aPost, oneW, allOne, retV, retVA, simprocAttr]
      refine call_giv hsame ?_
      simp -dsimp -implicitDefEqProofs (disch := first | omega | (simp only [List.length_append, List.length_cons, List.length_nil, List.length_take, List.length_drop]; omega)) only [hs, hrl, hrr, hr55, hd1, hd2, hsb, ↓aPre, aPost, oneW, allOne, retV, retVA, simprocAttr]
      refine call_giv hsame ?_
      simp -dsimp -implicitDefEqProofs (disch := first | omega | (simp only [List.length_append, List.length_cons, List.length_nil, List.length_take, List.length_drop]; omega)) only [hs, hrl, hrr, hr55, hd1, hd2, hsb, ↓aPre, aPost, oneW, allOne, retV, retVA, simprocAttr]
      refine round_of ⟨k + 1, by omega, ?_⟩ ?_
      · simp -dsimp -implicitDefEqProofs (disch := first | omega | (simp only [List.length_append, List.length_cons, List.length_nil, List.length_take, List.length_drop]; omega)) only [hs, hq, ↓aPre, aPost, oneW, allOne, retV, retVA, simprocAttr]
      · simp -dsimp -implicitDefEqProofs (disch := first | omega | (simp only [List.length_append, List.length_cons, List.length_nil, List.length_take, List.length_drop]; omega)) only [hs, ↓aPre, aPost, oneW, allOne, retV, retVA, simprocAttr]
        omega
  · obtain rfl : k = 55 := by omega
    rw [nmd_end] at hs
    have hf := find_giv y0
    have hg := byname_giv names_b hb
    have hr := rfind_giv y0
    have hnone : Giv Tryd.prog 8 [.agg [.c (.int .u16 0), .c (.string (strOfNums [])), .lst 1 [], .c (.int .i64 0)], .agg [.c (.int .i64 0), .c (.string (strOfNums [])), .c (.slice none 0 0), .c (.int .i64 0)]] (retV [.c (.bool true)]) := by
      refine Giv.le ?_ (same_giv ru0 (by decide) (fun z h => absurd h List.not_mem_nil) (by decide))
      unfold ruD rrD ru0
      repeat (first | exact leD.nil | exact leE.refl _ | exact leE.nil _ | refine leD.cons ?_ ?_ | refine leE.agg ?_)
    obtain ⟨I, hI⟩ : ∃ I, I = ix (fun y => decide (y.1 = y0)) ruls 0 := ⟨_, rfl⟩
    obtain ⟨J, hJ⟩ : ∃ J, J = ix (fun y => decide (y.2.1 = s1)) ruls 0 := ⟨_, rfl⟩
    rw [← hI] at hf hr
    rw [← hJ] at hg hs
    have hfin : ∀ {k : Nat}, k < ruls.length → Giv Tryd.prog 8 [ruD (ruls.getD k ru0), rrD (ruls.getD k ru0)] (retV [.c (.bool true)]) := fun {k} h => same_get (by omega)
    unfold ruD rrD at hfin
    have hd2 : ∀ {k : Nat}, k < ruls.length → _ := fun {k} h => rrsD_get (l := ruls) (i := k) h
    have hmx : ∀ (j : Nat), (if (0 : Int) > (j : Int) then (0 : Int) else (j : Int)) = (j : Int) := fun j => if_neg (by omega)
    rcases found hI with ⟨h1, h2⟩ | ⟨i, rfl, h1, h2, _⟩
    · rw [decide_eq_false h2, fndR, if_pos h1] at hf
      unfold ruD ru0 at hf
      rcases found hJ with ⟨h3, h4⟩ | ⟨j, rfl, h3, h4, _⟩
      · rw [decide_eq_false h4, fndR, if_pos h3] at hg
        unfold ruD ru0 at hg
        simp -dsimp -implicitDefEqProofs (disch := first | omega | (simp only [List.length_append, List.length_cons, List.length_nil, List.length_take, List.length_drop]; omega)) only [hs, ↓aPre, aPost, oneW, allOne, retV, retVA, simprocAttr]
        refine call_giv hf ?_
        simp -dsimp -implicitDefEqProofs (disch := first | omega | (simp only [List.length_append, List.length_cons, List.length_nil, List.length_take, List.length_drop]; omega)) only [hs, ↓aPre, aPost, oneW, allOne, retV, retVA, simprocAttr]
        refine call_giv hg ?_
        simp -dsimp -implicitDefEqProofs (disch := first | omega | (simp only [List.length_append, List.length_cons, List.length_nil, List.length_take, List.length_drop]; omega)) only [hs, ↓aPre, aPost, oneW, allOne, retV, retVA, simprocAttr]
        refine call_giv hr ?_
        simp -dsimp -implicitDefEqProofs (disch := first | omega | (simp only [List.length_append, List.length_cons, List.length_nil, List.length_take, List.length_drop]; omega)) only [hs, h2, h4, ↓aPre, aPost, oneW, allOne, retV, retVA, simprocAttr]
        refine call_giv hnone ?_
        simp -dsimp -implicitDefEqProofs (disch := first | omega | (simp only [List.length_append, List.length_cons, List.length_nil, List.length_take, List.length_drop]; omega)) only [hs, h2, h4, ↓aPre, aPost, oneW, allOne, retV, retVA, simprocAttr]
        refine call_giv hnone ?_
        simp -dsimp -implicitDefEqProofs (disch := first | omega | (simp only [List.length_append, List.length_cons, List.length_nil, List.length_take, List.length_drop]; omega)) only [hs, h2, h4, ↓aPre, aPost, oneW, allOne, retV, retVA, simprocAttr]
        exact post_eq rfl
      · rw [decide_eq_true (by omega), h4] at hg
        unfold ruD at hg
        have e3 := rrsD_get h3
        have e4 := hfin h3
        simp -dsimp -implicitDefEqProofs (disch := first | omega | (simp only [List.length_append, List.length_cons, List.length_nil, List.length_take, List.length_drop]; omega)) only [hs, ↓aPre, aPost, oneW, allOne, retV, retVA, simprocAttr]
        refine call_giv hf ?_
        simp -dsimp -implicitDefEqProofs (disch := first | omega | (simp only [List.length_append, List.length_cons, List.length_nil, List.length_take, List.length_drop]; omega)) only [hs, ↓aPre, aPost, oneW, allOne, retV, retVA, simprocAttr]
        refine call_giv hg ?_
        simp -dsimp -implicitDefEqProofs (disch := first | omega | (simp only [List.length_append, List.length_cons, List.length_nil, List.length_take, List.length_drop]; omega)) only [hs, ↓aPre, aPost, oneW, allOne, retV, retVA, simprocAttr]
        refine call_giv hr ?_
        simp -dsimp -implicitDefEqProofs (disch := first | omega | (simp only [List.length_append, List.length_cons, List.length_nil, List.length_take, List.length_drop]; omega)) only [hs, h2, ↓aPre, aPost, oneW, allOne, retV, retVA, simprocAttr]
        refine call_giv hnone ?_
        simp -dsimp -implicitDefEqProofs (disch := first | omega | (simp only [List.length_append, List.length_cons, List.length_nil, List.length_take, List.length_drop]; omega)) only [hs, h2, hrr, hmx, e3, ↓aPre, aPost, oneW, allOne, retV, retVA, simprocAttr]
        refine call_giv e4 ?_
        simp -dsimp -implicitDefEqProofs (disch := first | omega | (simp only [List.length_append, List.length_cons, List.length_nil, List.length_take, List.length_drop]; omega)) only [hs, h2, h4, ↓aPre, aPost, oneW, allOne, retV, retVA, simprocAttr]
        exact post_eq rfl
    · rw [decide_eq_true (by omega), h2] at hf
      unfold ruD at hf
      have e1 := rrsD_get h1
      have e2 := hfin h1
      rcases found hJ with ⟨h3, h4⟩ | ⟨j, rfl, h3, h4, _⟩
      · rw [decide_eq_false h4, fndR, if_pos h3] at hg
        unfold ruD ru0 at hg
        simp -dsimp -implicitDefEqProofs (disch := first | omega | (simp only [List.length_append, List.length_cons, List.length_nil, List.length_take, List.length_drop]; omega)) only [hs, ↓aPre, aPost, oneW, allOne, retV, retVA, simprocAttr]
        refine call_giv hf ?_
        simp -dsimp -implicitDefEqProofs (disch := first | omega | (simp only [List.length_append, List.length_cons, List.length_nil, List.length_take, List.length_drop]; omega)) only [hs, ↓aPre, aPost, oneW, allOne, retV, retVA, simprocAttr]
        refine call_giv hg ?_
        simp -dsimp -implicitDefEqProofs (disch := first | omega | (simp only [List.length_append, List.length_cons, List.length_nil, List.length_take, List.length_drop]; omega)) only [hs, ↓aPre, aPost, oneW, allOne, retV, retVA, simprocAttr]
        refine call_giv hr ?_
        simp -dsimp -implicitDefEqProofs (disch := first | omega | (simp only [List.length_append, List.length_cons, List.length_nil, List.length_take, List.length_drop]; omega)) only [hs, h4, hrr, hmx, e1, ↓aPre, aPost, oneW, allOne, retV, retVA, simprocAttr]
        refine call_giv e2 ?_
        simp -dsimp -implicitDefEqProofs (disch := first | omega | (simp only [List.length_append, List.length_cons, List.length_nil, List.length_take, List.length_drop]; omega)) only [hs, h4, ↓aPre, aPost, oneW, allOne, retV, retVA, simprocAttr]
        refine call_giv hnone ?_
        simp -dsimp -implicitDefEqProofs (disch := first | omega | (simp only [List.length_append, List.length_cons, List.length_nil, List.length_take, List.length_drop]; omega)) only [hs, h4, ↓aPre, aPost, oneW, allOne, retV, retVA, simprocAttr]
        exact post_eq rfl
      · rw [decide_eq_true (by omega), h4] at hg
        unfold ruD at hg
        have e3 := rrsD_get h3
        have e4 := hfin h3
        simp -dsimp -implicitDefEqProofs (disch := first | omega | (simp only [List.length_append, List.length_cons, List.length_nil, List.length_take, List.length_drop]; omega)) only [hs, ↓aPre, aPost, oneW, allOne, retV, retVA, simprocAttr]
        refine call_giv hf ?_
        simp -dsimp -implicitDefEqProofs (disch := first | omega | (simp only [List.length_append, List.length_cons, List.length_nil, List.length_take, List.length_drop]; omega)) only [hs, ↓aPre, aPost, oneW, allOne, retV, retVA, simprocAttr]
        refine call_giv hg ?_
        simp -dsimp -implicitDefEqProofs (disch := first | omega | (simp only [List.length_append, List.length_cons, List.length_nil, List.length_take, List.length_drop]; omega)) only [hs, ↓aPre, aPost, oneW, allOne, retV, retVA, simprocAttr]
        refine call_giv hr ?_
        simp -dsimp -implicitDefEqProofs (disch := first | omega | (simp only [List.length_append, List.length_cons, List.length_nil, List.length_take, List.length_drop]; omega)) only [hs, hrr, hmx, e1, ↓aPre, aPost, oneW, allOne, retV, retVA, simprocAttr]
        refine call_giv e2 ?_
        simp -dsimp -implicitDefEqProofs (disch := first | omega | (simp only [List.length_append, List.length_cons, List.length_nil, List.length_take, List.length_drop]; omega)) only [hs, hrr, hmx, e3, ↓aPre, aPost, oneW, allOne, retV, retVA, simprocAttr]
        refine call_giv e4 ?_
        simp -dsimp -implicitDefEqProofs (disch := first | omega | (simp only [List.length_append, List.length_cons, List.length_nil, List.length_take, List.length_drop]; omega)) only [hs, h2, h4, ↓aPre, aPost, oneW, allOne, retV, retVA, simprocAttr]
        exact post_eq rfl
end Go.Proofs.YthbdglibakjfbaaDoor
