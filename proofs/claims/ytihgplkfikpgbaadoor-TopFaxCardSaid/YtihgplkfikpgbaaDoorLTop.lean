/- The law TopFax. No condition but what each says. -/
import Derived.Test.YtihgplkfikpgbaaDoorWG3
set_option linter.unusedSimpArgs false
set_option linter.unusedVariables false
set_option maxRecDepth 8000
set_option maxHeartbeats 4000000
namespace Go.Proofs.YtihgplkfikpgbaaDoor
open Go.Eng Go.RowKit
def a5 : AFn := ⟨49, (.seq (.ops [⟨(.some 6), (.mov (.const (.slice .none 0 0))), .none⟩, ⟨(.some 7), (.mov (.const (.bool false))), .none⟩]) (.seq (.ops [⟨(.some 13), (.mov (.tmp 1)), .none⟩, ⟨(.some 14), (.bin .add (.tmp 13) (.const (.int .i64 7))), .none⟩, ⟨(.some 15), (.bin .quo (.tmp 14) (.const (.int .i64 8))), .none⟩, ⟨(.some 8), (.mov (.tmp 15)), .none⟩]) (.seq (.ops [⟨(.some 9), (.mov (.const (.slice .none 0 0))), .none⟩]) (.seq (.seq (.ops [⟨(.some 16), (.mov (.tmp 2)), .none⟩, ⟨(.some 17), (.mov (.const (.int .i64 0))), .none⟩]) (.block 0 (.loop (.seq (.ops [⟨(.some 18), (.bin .lss (.tmp 17) (.tmp 16)), .none⟩]) (.seq (.cond (.tmp 18) .skip (.exit 0)) (.seq (.block 1 (.seq (.ops [⟨(.some 19), (.mov (.tmp 17)), .none⟩, ⟨(.some 10), (.mov (.tmp 19)), .none⟩]) (.seq (.seq (.ops [⟨(.some 20), (.mov (.tmp 10)), .none⟩, ⟨(.some 21), (.bin .add (.tmp 20) (.const (.int .i64 1))), .none⟩, ⟨(.some 22), (.mov (.tmp 8)), .none⟩, ⟨(.some 23), (.bin .mul (.tmp 21) (.tmp 22)), .none⟩, ⟨(.some 24), (.mov (.tmp 0)), .none⟩, ⟨(.some 25), (.len (.tmp 24)), .none⟩, ⟨(.some 26), (.bin .gtr (.tmp 23) (.tmp 25)), .none⟩]) (.cond (.tmp 26) (.seq (.ops [⟨(.some 6), (.mov (.const (.slice .none 0 0))), .none⟩, ⟨(.some 7), (.mov (.const (.bool false))), .none⟩]) .ret) .skip)) (.seq (.ops [⟨(.some 28), (.mov (.tmp 0)), .none⟩, ⟨(.some 29), (.mov (.tmp 10)), .none⟩, ⟨(.some 30), (.mov (.tmp 8)), .none⟩, ⟨(.some 31), (.bin .mul (.tmp 29) (.tmp 30)), .none⟩, ⟨(.some 32), (.mov (.tmp 10)), .none⟩, ⟨(.some 33), (.bin .add (.tmp 32) (.const (.int .i64 1))), .none⟩, ⟨(.some 34), (.mov (.tmp 8)), .none⟩, ⟨(.some 35), (.bin .mul (.tmp 33) (.tmp 34)), .none⟩, ⟨(.some 36), (.slc 1 (.tmp 28) (.some (.tmp 31)) (.some (.tmp 35))), .none⟩, ⟨(.some 37), (.mov (.tmp 1)), .none⟩, ⟨(.some 38), (.call 38 13 [(.tmp 36), (.tmp 37)]), .none⟩, ⟨(.some 27), (.mov (.tmp 38)), .none⟩, ⟨(.some 39), (.ext (.tmp 27) 0), .none⟩, ⟨(.some 40), (.ext (.tmp 27) 1), .none⟩, ⟨(.some 11), (.mov (.tmp 39)), .none⟩, ⟨(.some 12), (.mov (.tmp 40)), .none⟩]) (.seq (.seq (.ops [⟨(.some 41), (.mov (.tmp 12)), .none⟩, ⟨(.some 42), (.bin .neq (.tmp 41) (.const (.int .i64 0))), .none⟩]) (.cond (.tmp 42) (.seq (.ops [⟨(.some 6), (.mov (.const (.slice .none 0 0))), .none⟩, ⟨(.some 7), (.mov (.const (.bool false))), .none⟩]) .ret) .skip)) (.ops [⟨(.some 43), (.mov (.tmp 9)), .none⟩, ⟨(.some 44), (.mov (.tmp 11)), .none⟩, ⟨(.some 45), (.lit 1 [(.tmp 44)]), .none⟩, ⟨(.some 46), (.app 46 1 24 (.tmp 43) (.tmp 45)), .none⟩, ⟨(.some 9), (.mov (.tmp 46)), .none⟩])))))) (.ops [⟨(.some 47), (.bin .add (.tmp 17) (.const (.int .i64 1))), .none⟩, ⟨(.some 17), (.mov (.tmp 47)), .none⟩]))))))) (.seq (.ops [⟨(.some 48), (.mov (.tmp 9)), .none⟩, ⟨(.some 6), (.mov (.tmp 48)), .none⟩, ⟨(.some 7), (.mov (.const (.bool true))), .none⟩]) .ret))))), [(6, .none), (7, .none)]⟩
theorem c5 : cmpF Tryd.prog [] [] 5 = some a5 := by kernel_rfl
def a12 : AFn := ⟨53, (.seq (.ops [⟨(.some 4), (.mov (.const (.bool false))), .none⟩]) (.seq (.seq (.ops [⟨(.some 7), (.mov (.tmp 0)), .none⟩, ⟨(.some 8), (.len (.tmp 7)), .none⟩, ⟨(.some 9), (.mov (.tmp 1)), .none⟩, ⟨(.some 10), (.len (.tmp 9)), .none⟩, ⟨(.some 11), (.bin .neq (.tmp 8) (.tmp 10)), .none⟩]) (.cond (.tmp 11) (.seq (.ops [⟨(.some 4), (.mov (.const (.bool false))), .none⟩]) .ret) .skip)) (.seq (.seq (.ops [⟨(.some 12), (.mov (.tmp 0)), .none⟩, ⟨(.some 13), (.len (.tmp 12)), .none⟩, ⟨(.some 14), (.mov (.const (.int .i64 0))), .none⟩]) (.block 0 (.loop (.seq (.ops [⟨(.some 15), (.bin .lss (.tmp 14) (.tmp 13)), .none⟩]) (.seq (.cond (.tmp 15) .skip (.exit 0)) (.seq (.block 1 (.seq (.ops [⟨(.some 16), (.mov (.tmp 14)), .none⟩, ⟨(.some 5), (.mov (.tmp 16)), .none⟩]) (.seq (.seq (.draw [(⟨(.some 17), (.mov (.tmp 0)), .none⟩, (false, [])), (⟨(.some 18), (.mov (.tmp 5)), .none⟩, (false, [])), (⟨(.some 19), (.iadr 1 (.tmp 17) (.tmp 18)), .none⟩, (false, [])), (⟨(.some 20), (.ld (.tmp 19)), .none⟩, (false, [])), (⟨(.some 21), (.len (.tmp 20)), .none⟩, (false, [])), (⟨(.some 22), (.mov (.tmp 1)), .none⟩, (false, [])), (⟨(.some 23), (.mov (.tmp 5)), .none⟩, (false, [])), (⟨(.some 24), (.iadr 1 (.tmp 22) (.tmp 23)), .none⟩, (false, [])), (⟨(.some 25), (.ld (.tmp 24)), .none⟩, (false, [])), (⟨(.some 26), (.len (.tmp 25)), .none⟩, (false, [])), (⟨(.some 27), (.bin .neq (.tmp 21) (.tmp 26)), .none⟩, (false, []))]) (.cond (.tmp 27) (.seq (.ops [⟨(.some 4), (.mov (.const (.bool false))), .none⟩]) .ret) .skip)) (.seq (.ops [⟨(.some 28), (.mov (.tmp 0)), .none⟩, ⟨(.some 29), (.mov (.tmp 5)), .none⟩, ⟨(.some 30), (.iadr 1 (.tmp 28) (.tmp 29)), .none⟩, ⟨(.some 31), (.ld (.tmp 30)), .none⟩, ⟨(.some 32), (.len (.tmp 31)), .none⟩, ⟨(.some 33), (.mov (.const (.int .i64 0))), .none⟩]) (.block 2 (.loop (.seq (.ops [⟨(.some 34), (.bin .lss (.tmp 33) (.tmp 32)), .none⟩]) (.seq (.cond (.tmp 34) .skip (.exit 2)) (.seq (.block 3 (.seq (.ops [⟨(.some 35), (.mov (.tmp 33)), .none⟩, ⟨(.some 6), (.mov (.tmp 35)), .none⟩]) (.seq (.draw [(⟨(.some 36), (.mov (.tmp 0)), .none⟩, (false, [])), (⟨(.some 37), (.mov (.tmp 5)), .none⟩, (false, [])), (⟨(.some 38), (.iadr 1 (.tmp 36) (.tmp 37)), .none⟩, (false, [])), (⟨(.some 39), (.ld (.tmp 38)), .none⟩, (false, [])), (⟨(.some 40), (.mov (.tmp 6)), .none⟩, (false, [])), (⟨(.some 41), (.iadr 1 (.tmp 39) (.tmp 40)), .none⟩, (false, [])), (⟨(.some 42), (.ld (.tmp 41)), .none⟩, (false, [])), (⟨(.some 43), (.mov (.tmp 1)), .none⟩, (false, [])), (⟨(.some 44), (.mov (.tmp 5)), .none⟩, (false, [])), (⟨(.some 45), (.iadr 1 (.tmp 43) (.tmp 44)), .none⟩, (false, [])), (⟨(.some 46), (.ld (.tmp 45)), .none⟩, (false, [])), (⟨(.some 47), (.mov (.tmp 6)), .none⟩, (false, [])), (⟨(.some 48), (.iadr 1 (.tmp 46) (.tmp 47)), .none⟩, (false, [])), (⟨(.some 49), (.ld (.tmp 48)), .none⟩, (false, [])), (⟨(.some 50), (.bin .neq (.tmp 42) (.tmp 49)), .none⟩, (false, []))]) (.cond (.tmp 50) (.seq (.ops [⟨(.some 4), (.mov (.const (.bool false))), .none⟩]) .ret) .skip)))) (.ops [⟨(.some 51), (.bin .add (.tmp 33) (.const (.int .i64 1))), .none⟩, ⟨(.some 33), (.mov (.tmp 51)), .none⟩])))))))))) (.ops [⟨(.some 52), (.bin .add (.tmp 14) (.const (.int .i64 1))), .none⟩, ⟨(.some 14), (.mov (.tmp 52)), .none⟩]))))))) (.seq (.ops [⟨(.some 4), (.mov (.const (.bool true))), .none⟩]) .ret)))), [(4, .none)]⟩
theorem c12 : cmpF Tryd.prog [] [] 12 = some a12 := by kernel_rfl
def a3 : AFn := ⟨120, (.seq (.ops [⟨(.some 5), (.box 5 4 (.tmp 2)), .none⟩, ⟨(.some 6), (.mov (.const (.bool false))), .none⟩]) (.seq (.seq (.ops [⟨(.some 22), (.mov (.tmp 1)), .none⟩, ⟨(.some 23), (.bin .lss (.tmp 22) (.const (.int .i64 1))), .none⟩, ⟨(.some 24), (.mov (.tmp 23)), .none⟩, ⟨(.some 25), (.mov (.tmp 1)), (.some (24, false))⟩, ⟨(.some 26), (.bin .gtr (.tmp 25) (.const (.int .i64 300))), (.some (24, false))⟩, ⟨(.some 27), (.pick (.tmp 24) (.const (.bool true)) (.tmp 26)), .none⟩, ⟨(.some 28), (.mov (.tmp 27)), .none⟩, ⟨(.some 29), (.mov (.tmp 0)), (.some (28, false))⟩, ⟨(.some 30), (.len (.tmp 29)), (.some (28, false))⟩, ⟨(.some 31), (.bin .gtr (.tmp 30) (.const (.int .i64 300))), (.some (28, false))⟩, ⟨(.some 32), (.pick (.tmp 28) (.const (.bool true)) (.tmp 31)), .none⟩, ⟨(.some 33), (.mov (.tmp 32)), .none⟩, ⟨(.some 34), (.ldn 4 (.tmp 5)), (.some (33, false))⟩, ⟨(.some 35), (.call 35 4 [(.tmp 34)]), (.some (33, false))⟩, ⟨(.some 36), (.un .not (.tmp 35)), (.some (33, false))⟩, ⟨(.some 37), (.pick (.tmp 33) (.const (.bool true)) (.tmp 36)), .none⟩]) (.cond (.tmp 37) (.seq (.ops [⟨(.some 38), (.build [(.bool false), (.int .i64 0), (.bool false), (.bool false)] []), .none⟩, ⟨(.some 39), (.call 39 4 [(.tmp 38)]), .none⟩, ⟨(.some 6), (.mov (.tmp 39)), .none⟩]) .ret) .skip)) (.seq (.ops [⟨(.some 40), (.mov (.tmp 0)), .none⟩, ⟨(.some 41), (.len (.tmp 40)), .none⟩, ⟨(.some 42), (.mov (.tmp 1)), .none⟩, ⟨(.some 43), (.bin .add (.tmp 42) (.const (.int .i64 7))), .none⟩, ⟨(.some 44), (.bin .quo (.tmp 43) (.const (.int .i64 8))), .none⟩, ⟨(.some 45), (.bin .quo (.tmp 41) (.tmp 44)), .none⟩, ⟨(.some 7), (.mov (.tmp 45)), .none⟩]) (.seq (.ops [⟨(.some 47), (.mov (.tmp 0)), .none⟩, ⟨(.some 48), (.mov (.tmp 1)), .none⟩, ⟨(.some 49), (.mov (.tmp 7)), .none⟩, ⟨(.some 50), (.call 50 5 [(.tmp 47), (.tmp 48), (.tmp 49)]), .none⟩, ⟨(.some 46), (.mov (.tmp 50)), .none⟩, ⟨(.some 51), (.ext (.tmp 46) 0), .none⟩, ⟨(.some 52), (.ext (.tmp 46) 1), .none⟩, ⟨(.some 8), (.mov (.tmp 51)), .none⟩, ⟨(.some 9), (.mov (.tmp 52)), .none⟩]) (.seq (.seq (.ops [⟨(.some 53), (.mov (.tmp 9)), .none⟩, ⟨(.some 54), (.un .not (.tmp 53)), .none⟩]) (.cond (.tmp 54) (.seq (.ops [⟨(.some 6), (.mov (.const (.bool false))), .none⟩]) .ret) .skip)) (.seq (.ops [⟨(.some 56), (.mov (.tmp 8)), .none⟩, ⟨(.some 57), (.mov (.tmp 1)), .none⟩, ⟨(.some 58), (.call 58 6 [(.tmp 56), (.tmp 57)]), .none⟩, ⟨(.some 55), (.mov (.tmp 58)), .none⟩, ⟨(.some 59), (.ext (.tmp 55) 0), .none⟩, ⟨(.some 60), (.ext (.tmp 55) 1), .none⟩, ⟨(.some 10), (.mov (.tmp 59)), .none⟩, ⟨(.some 11), (.mov (.tmp 60)), .none⟩]) (.seq (.ops [⟨(.some 62), (.mov (.tmp 8)), .none⟩, ⟨(.some 63), (.mov (.tmp 1)), .none⟩, ⟨(.some 64), (.ldn 4 (.tmp 5)), .none⟩, ⟨(.some 65), (.call 65 7 [(.tmp 62), (.tmp 63), (.tmp 64)]), .none⟩, ⟨(.some 61), (.mov (.tmp 65)), .none⟩, ⟨(.some 66), (.ext (.tmp 61) 0), .none⟩, ⟨(.some 67), (.ext (.tmp 61) 1), .none⟩, ⟨(.some 12), (.mov (.tmp 66)), .none⟩, ⟨(.some 13), (.mov (.tmp 67)), .none⟩]) (.seq (.ops [⟨(.some 69), (.mov (.tmp 8)), .none⟩, ⟨(.some 70), (.mov (.tmp 1)), .none⟩, ⟨(.some 71), (.call 71 8 [(.tmp 69), (.tmp 70)]), .none⟩, ⟨(.some 68), (.mov (.tmp 71)), .none⟩, ⟨(.some 72), (.ext (.tmp 68) 0), .none⟩, ⟨(.some 73), (.ext (.tmp 68) 1), .none⟩, ⟨(.some 14), (.mov (.tmp 72)), .none⟩, ⟨(.some 15), (.mov (.tmp 73)), .none⟩]) (.seq (.ops [⟨(.some 75), (.mov (.tmp 10)), .none⟩, ⟨(.some 76), (.mov (.tmp 1)), .none⟩, ⟨(.some 77), (.mov (.tmp 7)), .none⟩, ⟨(.some 78), (.call 78 9 [(.tmp 75), (.tmp 76), (.tmp 77)]), .none⟩, ⟨(.some 74), (.mov (.tmp 78)), .none⟩, ⟨(.some 79), (.ext (.tmp 74) 0), .none⟩, ⟨(.some 80), (.ext (.tmp 74) 1), .none⟩, ⟨(.some 16), (.mov (.tmp 79)), .none⟩, ⟨(.some 17), (.mov (.tmp 80)), .none⟩]) (.seq (.ops [⟨(.some 82), (.mov (.tmp 12)), .none⟩, ⟨(.some 83), (.mov (.tmp 1)), .none⟩, ⟨(.some 84), (.mov (.tmp 7)), .none⟩, ⟨(.some 85), (.fadr 0 (.tmp 5)), .none⟩, ⟨(.some 86), (.ld (.tmp 85)), .none⟩, ⟨(.some 87), (.call 87 10 [(.tmp 82), (.tmp 83), (.tmp 84), (.tmp 86)]), .none⟩, ⟨(.some 81), (.mov (.tmp 87)), .none⟩, ⟨(.some 88), (.ext (.tmp 81) 0), .none⟩, ⟨(.some 89), (.ext (.tmp 81) 1), .none⟩, ⟨(.some 18), (.mov (.tmp 88)), .none⟩, ⟨(.some 19), (.mov (.tmp 89)), .none⟩]) (.seq (.ops [⟨(.some 91), (.mov (.tmp 14)), .none⟩, ⟨(.some 92), (.mov (.tmp 1)), .none⟩, ⟨(.some 93), (.mov (.tmp 7)), .none⟩, ⟨(.some 94), (.call 94 11 [(.tmp 91), (.tmp 92), (.tmp 93)]), .none⟩, ⟨(.some 90), (.mov (.tmp 94)), .none⟩, ⟨(.some 95), (.ext (.tmp 90) 0), .none⟩, ⟨(.some 96), (.ext (.tmp 90) 1), .none⟩, ⟨(.some 20), (.mov (.tmp 95)), .none⟩, ⟨(.some 21), (.mov (.tmp 96)), .none⟩]) (.seq (.ops [⟨(.some 97), (.mov (.tmp 11)), .none⟩, ⟨(.some 98), (.mov (.tmp 13)), .none⟩, ⟨(.some 99), (.mov (.tmp 15)), .none⟩, ⟨(.some 100), (.mov (.tmp 17)), .none⟩, ⟨(.some 101), (.mov (.tmp 19)), .none⟩, ⟨(.some 102), (.mov (.tmp 21)), .none⟩, ⟨(.some 103), (.mm true (.tmp 97) [(.tmp 98), (.tmp 99), (.tmp 100), (.tmp 101), (.tmp 102)]), .none⟩, ⟨(.some 104), (.bin .eql (.tmp 103) (.const (.int .i64 0))), .none⟩, ⟨(.some 105), (.mov (.tmp 104)), .none⟩, ⟨(.some 106), (.mov (.tmp 8)), (.some (105, true))⟩, ⟨(.some 107), (.mov (.tmp 16)), (.some (105, true))⟩, ⟨(.some 108), (.call 108 12 [(.tmp 106), (.tmp 107)]), (.some (105, true))⟩, ⟨(.some 109), (.pick (.tmp 105) (.tmp 108) (.const (.bool false))), .none⟩, ⟨(.some 110), (.mov (.tmp 109)), .none⟩, ⟨(.some 111), (.mov (.tmp 8)), (.some (110, true))⟩, ⟨(.some 112), (.mov (.tmp 18)), (.some (110, true))⟩, ⟨(.some 113), (.call 113 12 [(.tmp 111), (.tmp 112)]), (.some (110, true))⟩, ⟨(.some 114), (.pick (.tmp 110) (.tmp 113) (.const (.bool false))), .none⟩, ⟨(.some 115), (.mov (.tmp 114)), .none⟩, ⟨(.some 116), (.mov (.tmp 8)), (.some (115, true))⟩, ⟨(.some 117), (.mov (.tmp 20)), (.some (115, true))⟩, ⟨(.some 118), (.call 118 12 [(.tmp 116), (.tmp 117)]), (.some (115, true))⟩, ⟨(.some 119), (.pick (.tmp 115) (.tmp 118) (.const (.bool false))), .none⟩, ⟨(.some 6), (.mov (.tmp 119)), .none⟩]) .ret)))))))))))), [(6, .none)]⟩
theorem c3 : cmpF Tryd.prog [] [] 3 = some a3 := by kernel_rfl
/-- the rows of bytes -/
def rwB (b : List Int) (sz : Nat) (w : Int) (i : Nat) : List Int := ofK ((b.drop (i * sz)).take sz) w.toNat
def rwsB (b : List Int) (sz : Nat) (w : Int) (n : Nat) : List (List Int) := (List.range n).map (rwB b sz w)
theorem rwsB_len (b : List Int) (sz : Nat) (w : Int) (n : Nat) : (rwsB b sz w n).length = n := by rw [rwsB, List.length_map, List.length_range]
theorem rwsB_get (b : List Int) (sz : Nat) (w : Int) {n i : Nat} (h : i < n) : (rwsB b sz w n).getD i [] = rwB b sz w i := by
  simp [rwsB, List.getD, h]
theorem rwsB_ok (b : List Int) (sz : Nat) {w : Int} (hw : 1 ≤ w) (n : Nat) : Rws w (rwsB b sz w n) := fun r hr => by
  obtain ⟨i, _, rfl⟩ := List.mem_map.1 hr
  have h := ofK_right ((b.drop (i * sz)).take sz) w.toNat w.toNat (Nat.le_refl _)
  rw [Int.toNat_of_nonneg (by omega)] at h
  exact ⟨ofK_len _ _, h.1⟩
theorem rows_giv (b : List Int) (hb : Bytes b) (hl : b.length ≤ 300) (w : Int) (hw : 1 ≤ w ∧ w ≤ 300) (sz n : Nat) (hsz : (sz : Int) = (w + 7) / 8) (hn : n * sz ≤ b.length) :
    Giv Tryd.prog 5 [.lst 1 (li .u8 b), .c (.int .i64 w), .c (.int .i64 n)] (retV [.lst 1 (rsD (rwsB b sz w n)), .c (.bool true)]) := by
  have hdiv : (w + 7).tdiv 8 = (sz : Int) := by rw [Int.tdiv_eq_ediv_of_nonneg (by omega), hsz]
  have hrl := rwsB_len b sz w n
  have hrg := fun (i : Nat) (h : i < n) => rwsB_get b sz w h
  obtain ⟨R, hRe⟩ : ∃ R, R = rwsB b sz w n := ⟨_, rfl⟩
  rw [← hRe] at hrl hrg ⊢
  have hsz1 : 1 ≤ sz := by omega
  have hnl : n ≤ 300 := by
    have := Nat.le_mul_of_pos_right n hsz1
    omega
  refine Giv.of mixed c5 (Nat.le_of_ble_eq_true rfl) ?_
  simp -dsimp -implicitDefEqProofs (disch := first | omega | (simp only [List.length_append, List.length_cons, List.length_nil, List.length_take, List.length_drop]; omega)) only [a5, hdiv, ↓aPre, aPost, oneW, allOne, retV, retVA, simprocAttr]
  refine loop_nil 9 900 1 (fun s => ∃ (k : Nat), k ≤ n ∧ s.tm 0 = .d (.lst 1 (li .u8 b)) ∧ s.tm 1 = .d (.c (.int .i64 w)) ∧ s.tm 8 = .d (.c (.int .i64 sz)) ∧ s.tm 9 = .sl 900 1 0 k ∧ s.tm 16 = .d (.c (.int .i64 n)) ∧ s.tm 17 = .d (.c (.int .i64 k)) ∧ s.hp 900 = some (.row 1 (rsD (R.take k)))) (fun s => n - (avN (s.tm 17)).toNat) ?_ (by decide) ?_ ?_
  · simp -dsimp -implicitDefEqProofs (disch := first | omega | (simp only [List.length_append, List.length_cons, List.length_nil, List.length_take, List.length_drop]; omega)) only [↓aPre, aPost, oneW, allOne, retV, retVA, simprocAttr]
  · refine ⟨0, Nat.zero_le _, ?_⟩
    simp -dsimp -implicitDefEqProofs (disch := first | omega | (simp only [List.length_append, List.length_cons, List.length_nil, List.length_take, List.length_drop]; omega)) only [Int.natCast_zero, List.take_zero, rsD_nil, ↓aPre, aPost, oneW, allOne, retV, retVA, simprocAttr]
  rintro s ⟨k, hk, hs⟩
  have htl := rsD_tlen (rows := R) (k := k) (by omega)
  by_cases hlt : k < n
  · obtain ⟨q, hq⟩ : ∃ q : Nat, q = k * sz := ⟨_, rfl⟩
    obtain ⟨p, hp⟩ : ∃ p : Nat, p = (k + 1) * sz := ⟨_, rfl⟩
    have hpq : p = q + sz := by rw [hp, hq, Nat.succ_mul]
    have hq2 : (k : Int) * (sz : Int) = (q : Int) := by rw [hq]; exact (Int.natCast_mul _ _).symm
    have hp2 : ((k : Int) + 1) * (sz : Int) = (p : Int) := by rw [hp, Int.natCast_mul]; rfl
    have hpl : p ≤ b.length := Nat.le_trans (by rw [hp]; exact Nat.mul_le_mul_right _ (by omega)) hn
    have hlen : ((b.drop q).take sz).length = sz := by rw [List.length_take, List.length_drop]; omega
    have hof := of_giv ((b.drop q).take sz) w (by omega) ((hb.drop q).take sz)
    rw [ofD, if_neg (by omega), if_neg (by omega)] at hof
    have hg := hrg k hlt
    have hsn := rsD_snoc (rows := R) (k := k) (by omega)
    rw [hg] at hsn
    rw [rwB, ← hq] at hsn
    obtain ⟨X, hX⟩ : ∃ X, X = ofK ((b.drop q).take sz) w.toNat := ⟨_, rfl⟩
    rw [← hX] at hof hsn
    have hng : ¬ (p : Int) > (b.length : Int) := by omega
    have hps : p - q = sz := by omega
    simp -dsimp -implicitDefEqProofs (disch := first | omega | (simp only [List.length_append, List.length_cons, List.length_nil, List.length_take, List.length_drop]; omega)) only [hs, hp2, hq2, hng, hps, ↓aPre, aPost, oneW, allOne, retV, retVA, simprocAttr]
    refine call_giv hof ?_
    simp -dsimp -implicitDefEqProofs (disch := first | omega | (simp only [List.length_append, List.length_cons, List.length_nil, List.length_take, List.length_drop]; omega)) only [hs, ibne_f, htl, hsn, ↓aPre, aPost, oneW, allOne, retV, retVA, simprocAttr]
    refine round_of ⟨k + 1, by omega, ?_⟩ ?_
    · simp -dsimp -implicitDefEqProofs (disch := first | omega | (simp only [List.length_append, List.length_cons, List.length_nil, List.length_take, List.length_drop]; omega)) only [hs, htl, hsn, ↓aPre, aPost, oneW, allOne, retV, retVA, simprocAttr]
    · simp -dsimp -implicitDefEqProofs (disch := first | omega | (simp only [List.length_append, List.length_cons, List.length_nil, List.length_take, List.length_drop]; omega)) only [hs, ↓aPre, aPost, oneW, allOne, retV, retVA, simprocAttr]
      omega
  · obtain rfl : k = n := by omega
    have hz1 : R.take k = R := take_all (by omega)
    have hz2 : (rsD R).take k = rsD R := take_all (by rw [rsD_len]; omega)
    rw [hz1] at hs htl
    simp -dsimp -implicitDefEqProofs (disch := first | omega | (simp only [List.length_append, List.length_cons, List.length_nil, List.length_take, List.length_drop]; omega)) only [hs, htl, hz2, ↓aPre, aPost, oneW, allOne, retV, retVA, simprocAttr]
    exact post_eq rfl
theorem same_giv (rows : List (List Int)) (h1 : rows.length ≤ 1000) (h2 : ∀ r ∈ rows, r.length ≤ 1000) : Giv Tryd.prog 12 [.lst 1 (rsD rows), .lst 1 (rsD rows)] (retV [.c (.bool true)]) := by
  have hrl := rsD_len rows
  refine Giv.of mixed c12 (Nat.le_of_ble_eq_true rfl) ?_
  simp -dsimp -implicitDefEqProofs (disch := first | omega | (simp only [List.length_append, List.length_cons, List.length_nil, List.length_take, List.length_drop]; omega)) only [a12, hrl, ibne_f, ↓aPre, aPost, oneW, allOne, retV, retVA, simprocAttr]
  refine loop_of (fun s => ∃ (k : Nat), k ≤ rows.length ∧ s.tm 0 = .d (.lst 1 (rsD rows)) ∧ s.tm 1 = .d (.lst 1 (rsD rows)) ∧ s.tm 13 = .d (.c (.int .i64 rows.length)) ∧ s.tm 14 = .d (.c (.int .i64 k))) (fun s => rows.length - (avN (s.tm 14)).toNat) ?_ ?_
  · refine ⟨0, Nat.zero_le _, ?_⟩
    simp -dsimp -implicitDefEqProofs (disch := first | omega | (simp only [List.length_append, List.length_cons, List.length_nil, List.length_take, List.length_drop]; omega)) only [Int.natCast_zero, ↓aPre, aPost, oneW, allOne, retV, retVA, simprocAttr]
  rintro s ⟨k, hk, hs⟩
  by_cases hlt : k < rows.length
  · have hm := h2 _ (rget_mem hlt)
    obtain ⟨r, hre⟩ : ∃ r, r = rows.getD k [] := ⟨_, rfl⟩
    rw [← hre] at hm
    simp -dsimp -implicitDefEqProofs (disch := first | omega | (simp only [List.length_append, List.length_cons, List.length_nil, List.length_take, List.length_drop]; omega)) only [hs, hrl, rsD_get, hre.symm, ibne_f, ↓aPre, aPost, oneW, allOne, retV, retVA, simprocAttr]
    have hs0 := hs
    refine loop_of (fun s => ∃ (j : Nat), j ≤ r.length ∧ s.tm 0 = .d (.lst 1 (rsD rows)) ∧ s.tm 1 = .d (.lst 1 (rsD rows)) ∧ s.tm 13 = .d (.c (.int .i64 rows.length)) ∧ s.tm 14 = .d (.c (.int .i64 k)) ∧ s.tm 5 = .d (.c (.int .i64 k)) ∧ s.tm 32 = .d (.c (.int .i64 r.length)) ∧ s.tm 33 = .d (.c (.int .i64 j))) (fun s => r.length - (avN (s.tm 33)).toNat) ?_ ?_
    · refine ⟨0, Nat.zero_le _, ?_⟩
      simp -dsimp -implicitDefEqProofs (disch := first | omega | (simp only [List.length_append, List.length_cons, List.length_nil, List.length_take, List.length_drop]; omega)) only [hs, Int.natCast_zero, ↓aPre, aPost, oneW, allOne, retV, retVA, simprocAttr]
    clear hs
    rintro s ⟨j, hj, hs⟩
    by_cases hjl : j < r.length
    · simp -dsimp -implicitDefEqProofs (disch := first | omega | (simp only [List.length_append, List.length_cons, List.length_nil, List.length_take, List.length_drop]; omega)) only [hs, hrl, rsD_get, hre.symm, ibne_f, ↓aPre, aPost, oneW, allOne, retV, retVA, simprocAttr]
      refine round_of ⟨j + 1, by omega, ?_⟩ ?_
      · simp -dsimp -implicitDefEqProofs (disch := first | omega | (simp only [List.length_append, List.length_cons, List.length_nil, List.length_take, List.length_drop]; omega)) only [hs, ↓aPre, aPost, oneW, allOne, retV, retVA, simprocAttr]
      · simp -dsimp -implicitDefEqProofs (disch := first | omega | (simp only [List.length_append, List.length_cons, List.length_nil, List.length_take, List.length_drop]; omega)) only [hs, ↓aPre, aPost, oneW, allOne, retV, retVA, simprocAttr]
        omega
    · obtain rfl : j = r.length := by omega
      simp -dsimp -implicitDefEqProofs (disch := first | omega | (simp only [List.length_append, List.length_cons, List.length_nil, List.length_take, List.length_drop]; omega)) only [hs, ↓aPre, aPost, oneW, allOne, retV, retVA, simprocAttr]
      refine round_of ⟨k + 1, by omega, ?_⟩ ?_
      · simp -dsimp -implicitDefEqProofs (disch := first | omega | (simp only [List.length_append, List.length_cons, List.length_nil, List.length_take, List.length_drop]; omega)) only [hs, ↓aPre, aPost, oneW, allOne, retV, retVA, simprocAttr]
      · simp -dsimp -implicitDefEqProofs (disch := first | omega | (simp only [List.length_append, List.length_cons, List.length_nil, List.length_take, List.length_drop]; omega)) only [hs, hs0, ↓aPre, aPost, oneW, allOne, retV, retVA, simprocAttr]
        omega
  · obtain rfl : k = rows.length := by omega
    simp -dsimp -implicitDefEqProofs (disch := first | omega | (simp only [List.length_append, List.length_cons, List.length_nil, List.length_take, List.length_drop]; omega)) only [hs, ↓aPre, aPost, oneW, allOne, retV, retVA, simprocAttr]
    exact post_eq rfl
theorem topFax_giv (y0 : List Int) (h0 : (y0.length * 1 ≤ 140737488351232 ∧ ∀ z ∈ y0, 0 ≤ z ∧ z ≤ 255)) (y1 : Int) (h1 : (-9223372036854775808 ≤ y1 ∧ y1 ≤ 9223372036854775807)) (y2 : (Bool) × (Int) × (Bool) × (Bool)) (h2 : (True ∧ (-9223372036854775808 ≤ y2.2.1 ∧ y2.2.1 ≤ 9223372036854775807) ∧ True ∧ True)) : Giv Tryd.prog 3 [.lst 1 (li .u8 y0), .c (.int .i64 y1), .agg [.c (.bool y2.1), .c (.int .i64 y2.2.1), .c (.bool y2.2.2.1), .c (.bool y2.2.2.2)]] (.d (.c (.bool true))) := by
  obtain ⟨two, ev, al, en⟩ := y2
  obtain ⟨hbl, hby⟩ := h0
  have hB : Bytes y0 := fun z hz => by have := hby z hz; omega
  have hev := h2.2.1
  dsimp only at hev ⊢
  clear h2 hby
  obtain ⟨w, rfl⟩ : ∃ w, w = y1 := ⟨_, rfl⟩
  have hrt := right3_giv two ev al en
  have hr0 := right3_giv false 0 false false
  unfold opD at hrt hr0
  rw [show (decide ((0 : Int) ≥ 1) || !false) = true from rfl] at hr0
  refine Giv.of (out := [.c (.bool true)]) mixed c3 (Nat.le_of_ble_eq_true rfl) ?_
  by_cases c1 : w < 1
  · simp -dsimp -implicitDefEqProofs (disch := first | omega | (simp only [List.length_append, List.length_cons, List.length_nil, List.length_take, List.length_drop]; omega)) only [a3, c1, ↓aPre, aPost, oneW, allOne, retV, retVA, simprocAttr]
    refine call_giv hr0 ?_
    simp -dsimp -implicitDefEqProofs (disch := first | omega | (simp only [List.length_append, List.length_cons, List.length_nil, List.length_take, List.length_drop]; omega)) only [↓aPre, aPost, oneW, allOne, retV, retVA, simprocAttr]
    exact post_eq rfl
  by_cases c2 : w > 300
  · simp -dsimp -implicitDefEqProofs (disch := first | omega | (simp only [List.length_append, List.length_cons, List.length_nil, List.length_take, List.length_drop]; omega)) only [a3, c1, c2, ↓aPre, aPost, oneW, allOne, retV, retVA, simprocAttr]
    refine call_giv hr0 ?_
    simp -dsimp -implicitDefEqProofs (disch := first | omega | (simp only [List.length_append, List.length_cons, List.length_nil, List.length_take, List.length_drop]; omega)) only [↓aPre, aPost, oneW, allOne, retV, retVA, simprocAttr]
    exact post_eq rfl
  by_cases c3 : (y0.length : Int) > 300
  · simp -dsimp -implicitDefEqProofs (disch := first | omega | (simp only [List.length_append, List.length_cons, List.length_nil, List.length_take, List.length_drop]; omega)) only [a3, c1, c2, c3, ↓aPre, aPost, oneW, allOne, retV, retVA, simprocAttr]
    refine call_giv hr0 ?_
    simp -dsimp -implicitDefEqProofs (disch := first | omega | (simp only [List.length_append, List.length_cons, List.length_nil, List.length_take, List.length_drop]; omega)) only [↓aPre, aPost, oneW, allOne, retV, retVA, simprocAttr]
    exact post_eq rfl
  cases c4 : (decide (ev ≥ 1) || !two) with
  | false =>
    rw [c4] at hrt
    simp -dsimp -implicitDefEqProofs (disch := first | omega | (simp only [List.length_append, List.length_cons, List.length_nil, List.length_take, List.length_drop]; omega)) only [a3, c1, c2, c3, ↓aPre, aPost, oneW, allOne, retV, retVA, simprocAttr]
    refine call_giv hrt ?_
    simp -dsimp -implicitDefEqProofs (disch := first | omega | (simp only [List.length_append, List.length_cons, List.length_nil, List.length_take, List.length_drop]; omega)) only [↓aPre, aPost, oneW, allOne, retV, retVA, simprocAttr]
    refine call_giv hr0 ?_
    simp -dsimp -implicitDefEqProofs (disch := first | omega | (simp only [List.length_append, List.length_cons, List.length_nil, List.length_take, List.length_drop]; omega)) only [↓aPre, aPost, oneW, allOne, retV, retVA, simprocAttr]
    exact post_eq rfl
  | true =>
    rw [c4] at hrt
    have hev1 : two = true → 1 ≤ ev := by
      rintro rfl
      simp at c4
      omega
    have hw : 1 ≤ w ∧ w ≤ 300 := by omega
    obtain ⟨sz, hsz⟩ : ∃ sz : Nat, (sz : Int) = (w + 7) / 8 := ⟨((w + 7) / 8).toNat, by omega⟩
    have hsz1 : 1 ≤ sz := by omega
    have hdiv : (w + 7).tdiv 8 = (sz : Int) := by rw [Int.tdiv_eq_ediv_of_nonneg (by omega), hsz]
    obtain ⟨n, hn⟩ : ∃ n : Nat, n = y0.length / sz := ⟨_, rfl⟩
    have hdn : (y0.length : Int).tdiv (sz : Int) = (n : Int) := by
      rw [Int.tdiv_eq_ediv_of_nonneg (by omega), hn]; exact (Int.natCast_ediv _ _).symm
    have hns : n * sz ≤ y0.length := by rw [hn]; exact Nat.div_mul_le_self _ _
    have hnl : n ≤ 300 := by
      have := Nat.le_mul_of_pos_right n hsz1
      omega
    have hro := rows_giv y0 hB (by omega) w hw sz n hsz hns
    have hRl := rwsB_len y0 sz w n
    have hRok := rwsB_ok y0 sz hw.1 n
    obtain ⟨R, hRe⟩ : ∃ R, R = rwsB y0 sz w n := ⟨_, rfl⟩
    rw [← hRe] at hro hRl hRok
    have hwn : n * ((w.toNat + 1) * 90) ≤ 243000 := by
      have h3 : n * (w.toNat + 1) ≤ n * (8 * sz + 1) := Nat.mul_le_mul_left _ (by omega)
      have h4 : n * (8 * sz + 1) = 8 * (n * sz) + n := by rw [Nat.mul_add, Nat.mul_one, Nat.mul_left_comm]
      have h5 : n * ((w.toNat + 1) * 90) = n * (w.toNat + 1) * 90 := (Nat.mul_assoc _ _ _).symm
      omega
    have hb1 := mhS_le w R 0 fun r hr => (hRok r hr).1
    have hb3 := g3S_le w al two en ev R 0 [] 0 fun r hr => (hRok r hr).1
    have hb4 := g4S_le w R []
    rw [hRl] at hb1 hb3 hb4
    have e1 := mhenc_giv R w hw hRok (by omega) (by omega)
    have d1 := mhdec_giv R w hw hRok (by omega) (by omega)
    have e3 := g3enc_giv R w two ev al en hw hev1 hRok (by omega) (by omega)
    have d3 := g3dec_giv R w two ev al en hw hRok (by omega) (by omega)
    have e4 := g4enc_giv R w hw hRok (by omega) (by omega)
    have d4 := g4dec_giv R w hw hRok (by omega) (by omega)
    have hsm := same_giv R (by omega) fun r hr => by have := (hRok r hr).1; omega
    obtain ⟨X1, hX1⟩ : ∃ X, X = pk (stream (mhS w R 0)) (mhS w R 0).length := ⟨_, rfl⟩
    obtain ⟨X3, hX3⟩ : ∃ X, X = pk (stream (g3S w al two en ev R 0 [] 0)) (g3S w al two en ev R 0 [] 0).length := ⟨_, rfl⟩
    obtain ⟨X4, hX4⟩ : ∃ X, X = pk (stream (g4S w R [])) (g4S w R []).length := ⟨_, rfl⟩
    rw [← hX1] at e1 d1
    rw [← hX3] at e3 d3
    rw [← hX4] at e4 d4
    rw [hRl] at d1 d3 d4
    unfold opD at e3
    clear hX1 hX3 hX4 hb1 hb3 hb4
    simp -dsimp -implicitDefEqProofs (disch := first | omega | (simp only [List.length_append, List.length_cons, List.length_nil, List.length_take, List.length_drop]; omega)) only [a3, c1, c2, c3, ↓aPre, aPost, oneW, allOne, retV, retVA, simprocAttr]
    refine call_giv hrt ?_
    simp -dsimp -implicitDefEqProofs (disch := first | omega | (simp only [List.length_append, List.length_cons, List.length_nil, List.length_take, List.length_drop]; omega)) only [hdiv, hdn, ↓aPre, aPost, oneW, allOne, retV, retVA, simprocAttr]
    refine call_giv hro ?_
    simp -dsimp -implicitDefEqProofs (disch := first | omega | (simp only [List.length_append, List.length_cons, List.length_nil, List.length_take, List.length_drop]; omega)) only [hdiv, hdn, ↓aPre, aPost, oneW, allOne, retV, retVA, simprocAttr]
    refine call_giv e1 ?_
    simp -dsimp -implicitDefEqProofs (disch := first | omega | (simp only [List.length_append, List.length_cons, List.length_nil, List.length_take, List.length_drop]; omega)) only [hdiv, hdn, ↓aPre, aPost, oneW, allOne, retV, retVA, simprocAttr]
    refine call_giv e3 ?_
    simp -dsimp -implicitDefEqProofs (disch := first | omega | (simp only [List.length_append, List.length_cons, List.length_nil, List.length_take, List.length_drop]; omega)) only [hdiv, hdn, ↓aPre, aPost, oneW, allOne, retV, retVA, simprocAttr]
    refine call_giv e4 ?_
    simp -dsimp -implicitDefEqProofs (disch := first | omega | (simp only [List.length_append, List.length_cons, List.length_nil, List.length_take, List.length_drop]; omega)) only [hdiv, hdn, ↓aPre, aPost, oneW, allOne, retV, retVA, simprocAttr]
    refine call_giv d1 ?_
    simp -dsimp -implicitDefEqProofs (disch := first | omega | (simp only [List.length_append, List.length_cons, List.length_nil, List.length_take, List.length_drop]; omega)) only [hdiv, hdn, ↓aPre, aPost, oneW, allOne, retV, retVA, simprocAttr]
    refine call_giv d3 ?_
    simp -dsimp -implicitDefEqProofs (disch := first | omega | (simp only [List.length_append, List.length_cons, List.length_nil, List.length_take, List.length_drop]; omega)) only [hdiv, hdn, ↓aPre, aPost, oneW, allOne, retV, retVA, simprocAttr]
    refine call_giv d4 ?_
    simp -dsimp -implicitDefEqProofs (disch := first | omega | (simp only [List.length_append, List.length_cons, List.length_nil, List.length_take, List.length_drop]; omega)) only [ibeq_t, ↓aPre, aPost, oneW, allOne, retV, retVA, simprocAttr]
    refine call_giv hsm ?_
    simp -dsimp -implicitDefEqProofs (disch := first | omega | (simp only [List.length_append, List.length_cons, List.length_nil, List.length_take, List.length_drop]; omega)) only [↓aPre, aPost, oneW, allOne, retV, retVA, simprocAttr]
    refine call_giv hsm ?_
    simp -dsimp -implicitDefEqProofs (disch := first | omega | (simp only [List.length_append, List.length_cons, List.length_nil, List.length_take, List.length_drop]; omega)) only [↓aPre, aPost, oneW, allOne, retV, retVA, simprocAttr]
    refine call_giv hsm ?_
    simp -dsimp -implicitDefEqProofs (disch := first | omega | (simp only [List.length_append, List.length_cons, List.length_nil, List.length_take, List.length_drop]; omega)) only [↓aPre, aPost, oneW, allOne, retV, retVA, simprocAttr]
    exact post_eq rfl
end Go.Proofs.YtihgplkfikpgbaaDoor
