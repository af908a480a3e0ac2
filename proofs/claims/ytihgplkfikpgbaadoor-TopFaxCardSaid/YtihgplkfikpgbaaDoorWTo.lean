/- A row that is read by the one above: on to a place; two lengths. No condition but what each says. A row read by the one above. No condition but what each says. -/
import Derived.Test.YtihgplkfikpgbaaDoorWRdRow
set_option linter.unusedSimpArgs false
set_option linter.unusedVariables false
set_option maxRecDepth 8000
set_option maxHeartbeats 4000000
namespace Go.Eng
open Go.RowKit
/-- an own row in the first cell of an own box told as data -/
theorem Gh.celI {s : St} {n m es len : Nat} {L : List D} {cs : List AV} (hn : s.hp n = some (.box (.sl m es 0 len :: cs))) (hm : s.hp m = some (.row es L)) (hl : len = L.length) (h2 : m < 1000000) (hnm : n ≠ m) :
    Gh [] s [] ((s.turn m (.ice es L)).turn n (.box (.d (.lst es L) :: cs))) [] := fun c Z M a w xs R h => by
  obtain ⟨b, ys, e, hb1, hb2, hb3, hb4⟩ := R.ob n _ hn
  unfold ARs at hb3
  obtain ⟨y, ys', hy0, hy1, hy2, hy3⟩ := hb3
  obtain ⟨Z', s', d, hz, R', hd, _, rfl, rfl⟩ := slD_sound R hy2 (K := fun s' d => s' = s.turn m (.ice es L) ∧ d = .lst es L) (by
    unfold slD
    rw [hm]
    exact ⟨h2, rfl, by omega, rfl, by rw [List.drop_zero, hl, List.take_length]⟩)
  have hn2 : (s.turn m (.ice es L)).hp n = some (.box (.sl m es 0 len :: cs)) := by simp only [St.turn, if_neg hnm]; exact hn
  obtain ⟨b2, zs, e2, k1, k2, k3, k4⟩ := R'.ob n _ hn2
  obtain rfl : b = b2 := by rw [hb1] at k1; exact Option.some.inj k1
  have hzs : ys = zs := by
    rw [hb2] at k2
    injection k2 with k2
    injection k2
  subst hzs
  unfold ARs at k3
  obtain ⟨y2, ys2, i0, i1, i2, i3⟩ := k3
  have hyy : y = y2 ∧ ys' = ys2 := by
    rw [hy0] at i0
    injection i0 with p q
    exact ⟨p, q⟩
  obtain ⟨rfl, rfl⟩ := hyy
  have hO : OR Z' M w n (.box (.d (.lst es L) :: cs)) := by
    refine ⟨b, ys, e, hb1, hb2, ?_, k4⟩
    unfold ARs
    exact ⟨y, ys', hy0, hy1, by unfold AR; exact hd, i3⟩
  refine ⟨Z', M, fun b h => hz b h, R'.tell hn2 rfl hO, ?_, fun _ _ => rfl, fun _ h => by cases h⟩
  unfold ARt at h ⊢
  exact h
end Go.Eng
namespace Go.Proofs.YtihgplkfikpgbaaDoor
open Go.Eng Go.RowKit
def a49 : AFn := ⟨23, (.seq (.seq (.ops [⟨(.some 4), (.mov (.tmp 1)), .none⟩, ⟨(.some 5), (.mov (.tmp 0)), .none⟩, ⟨(.some 6), (.nilC (.tmp 5)), .none⟩, ⟨(.some 7), (.fadr 3 (.tmp 6)), .none⟩, ⟨(.some 8), (.ld (.tmp 7)), .none⟩, ⟨(.some 9), (.bin .lss (.tmp 4) (.tmp 8)), .none⟩]) (.cond (.tmp 9) (.ops [⟨(.some 10), (.mov (.tmp 0)), .none⟩, ⟨(.some 11), (.mov (.tmp 0)), .none⟩, ⟨(.some 12), (.nilC (.tmp 11)), .none⟩, ⟨(.some 13), (.fadr 0 (.tmp 12)), .none⟩, ⟨(.some 14), (.ld (.tmp 13)), .none⟩, ⟨(.some 15), (.mov (.tmp 1)), .none⟩, ⟨(.some 16), (.call 16 44 [(.tmp 14), (.tmp 15)]), .none⟩, ⟨(.some 17), (.nilC (.tmp 10)), .none⟩, ⟨(.some 18), (.fadr 0 (.tmp 17)), .none⟩, ⟨.none, (.st 1 (.tmp 18) (.tmp 16)), .none⟩]) .skip)) (.ops [⟨(.some 19), (.mov (.tmp 0)), .none⟩, ⟨(.some 20), (.mov (.tmp 1)), .none⟩, ⟨(.some 21), (.nilC (.tmp 19)), .none⟩, ⟨(.some 22), (.fadr 1 (.tmp 21)), .none⟩, ⟨.none, (.st 1 (.tmp 22) (.tmp 20)), .none⟩])), []⟩
theorem c49 : cmpF Tryd.prog [] [] 49 = some a49 := by kernel_rfl
def a48 : AFn := ⟨55, (.seq (.ops [⟨(.some 6), (.mov (.const (.int .i64 0))), .none⟩]) (.seq (.ops [⟨(.some 12), (.mov (.tmp 0)), .none⟩, ⟨(.some 13), (.nilC (.tmp 12)), .none⟩, ⟨(.some 14), (.fadr 1 (.tmp 13)), .none⟩, ⟨(.some 15), (.ld (.tmp 14)), .none⟩, ⟨(.some 16), (.mm true (.tmp 15) [(.const (.int .i64 0))]), .none⟩, ⟨(.some 7), (.mov (.tmp 16)), .none⟩]) (.seq (.seq (.draw [(⟨(.some 17), (.mov (.tmp 0)), .none⟩, (false, [])), (⟨(.some 18), (.nilC (.tmp 17)), .none⟩, (false, [])), (⟨(.some 19), (.fadr 2 (.tmp 18)), .none⟩, (false, [])), (⟨(.some 20), (.ld (.tmp 19)), .none⟩, (false, [])), (⟨(.some 21), (.mov (.tmp 0)), .none⟩, (false, [])), (⟨(.some 22), (.nilC (.tmp 21)), .none⟩, (false, [])), (⟨(.some 23), (.fadr 2 (.tmp 22)), .none⟩, (false, [])), (⟨(.some 24), (.ld (.tmp 23)), .none⟩, (false, [])), (⟨(.some 25), (.un .not (.tmp 24)), .none⟩, (false, [])), (⟨(.some 28), (.mov (.const (.int .i64 0))), .none⟩, (false, [])), (⟨(.some 26), (.lit 1 [(.tmp 20), (.tmp 25)]), .none⟩, (false, [])), (⟨(.some 27), (.len (.tmp 26)), .none⟩, (false, []))]) (.block 0 (.loop (.seq (.ops [⟨(.some 29), (.bin .lss (.tmp 28) (.tmp 27)), .none⟩]) (.seq (.cond (.tmp 29) .skip (.exit 0)) (.seq (.block 1 (.seq (.ops [⟨(.some 30), (.iadr 1 (.tmp 26) (.tmp 28)), .none⟩, ⟨(.some 31), (.ld (.tmp 30)), .none⟩, ⟨(.some 9), (.mov (.tmp 31)), .none⟩]) (.seq (.ops [⟨(.some 33), (.mov (.tmp 2)), .none⟩, ⟨(.some 34), (.mov (.tmp 1)), .none⟩, ⟨(.some 35), (.mov (.tmp 0)), .none⟩, ⟨(.some 36), (.nilC (.tmp 35)), .none⟩, ⟨(.some 37), (.fadr 3 (.tmp 36)), .none⟩, ⟨(.some 38), (.ld (.tmp 37)), .none⟩, ⟨(.some 39), (.mov (.tmp 7)), .none⟩, ⟨(.some 40), (.bin .sub (.tmp 38) (.tmp 39)), .none⟩, ⟨(.some 41), (.mov (.tmp 9)), .none⟩, ⟨(.some 42), (.callm 43 [(.tmp 33), (.tmp 34), (.tmp 40), (.tmp 41)]), .none⟩, ⟨(.some 32), (.mov (.tmp 42)), .none⟩, ⟨(.some 43), (.ext (.tmp 32) 0), .none⟩, ⟨(.some 44), (.ext (.tmp 32) 1), .none⟩, ⟨(.some 10), (.mov (.tmp 43)), .none⟩, ⟨(.some 11), (.mov (.tmp 44)), .none⟩]) (.seq (.seq (.ops [⟨(.some 45), (.mov (.tmp 11)), .none⟩, ⟨(.some 46), (.bin .neq (.tmp 45) (.const (.int .i64 0))), .none⟩]) (.cond (.tmp 46) (.seq (.ops [⟨(.some 47), (.mov (.tmp 11)), .none⟩, ⟨(.some 6), (.mov (.tmp 47)), .none⟩]) .ret) .skip)) (.seq (.ops [⟨(.some 48), (.mov (.tmp 7)), .none⟩, ⟨(.some 49), (.mov (.tmp 10)), .none⟩, ⟨(.some 50), (.bin .add (.tmp 48) (.tmp 49)), .none⟩, ⟨(.some 7), (.mov (.tmp 50)), .none⟩]) (.ops [⟨(.some 51), (.mov (.tmp 0)), .none⟩, ⟨(.some 52), (.mov (.tmp 7)), .none⟩, ⟨(.some 53), (.callm 49 [(.tmp 51), (.tmp 52)]), .none⟩])))))) (.ops [⟨(.some 54), (.bin .add (.tmp 28) (.const (.int .i64 1))), .none⟩, ⟨(.some 28), (.mov (.tmp 54)), .none⟩]))))))) (.seq (.ops [⟨(.some 6), (.mov (.const (.int .i64 0))), .none⟩]) .ret)))), [(6, .none)]⟩
theorem c48 : cmpF Tryd.prog [3000043, 3000049] [] 48 = some a48 := by kernel_rfl
def a28 : AFn := ⟨112, (.seq (.ops [⟨(.some 8), (.mov (.const (.slice .none 0 0))), .none⟩, ⟨(.some 9), (.mov (.const (.int .i64 0))), .none⟩]) (.seq (.seq (.ops [⟨(.some 16), (.mov (.tmp 1)), .none⟩, ⟨(.some 17), (.isNilP false (.tmp 16)), .none⟩, ⟨(.some 18), (.mov (.tmp 17)), .none⟩, ⟨(.some 19), (.mov (.tmp 3)), (.some (18, false))⟩, ⟨(.some 20), (.call 20 16 [(.tmp 19)]), (.some (18, false))⟩, ⟨(.some 21), (.un .not (.tmp 20)), (.some (18, false))⟩, ⟨(.some 22), (.pick (.tmp 18) (.const (.bool true)) (.tmp 21)), .none⟩, ⟨(.some 23), (.mov (.tmp 22)), .none⟩, ⟨(.some 24), (.mov (.tmp 2)), (.some (23, false))⟩, ⟨(.some 25), (.mov (.tmp 3)), (.some (23, false))⟩, ⟨(.some 26), (.call 26 40 [(.tmp 24), (.tmp 25)]), (.some (23, false))⟩, ⟨(.some 27), (.un .not (.tmp 26)), (.some (23, false))⟩, ⟨(.some 28), (.pick (.tmp 23) (.const (.bool true)) (.tmp 27)), .none⟩]) (.cond (.tmp 28) (.seq (.ops [⟨(.some 8), (.mov (.const (.slice .none 0 0))), .none⟩, ⟨(.some 9), (.mov (.const (.int .i64 1))), .none⟩]) .ret) .skip)) (.seq (.ops [⟨(.some 29), (.lit0 29 1), .none⟩, ⟨(.some 30), (.mov (.tmp 3)), .none⟩, ⟨(.some 31), (.build [(.slice .none 0 0), (.int .i64 0), (.bool false), (.int .i64 0)] [(0, (1, (.tmp 29))), (1, (1, (.const (.int .i64 (-1))))), (3, (1, (.tmp 30)))]), .none⟩, ⟨(.some 32), (.box 32 4 (.tmp 31)), .none⟩, ⟨(.some 10), (.mov (.tmp 32)), .none⟩]) (.seq (.block 0 (.loop (.seq (.seq (.ops [⟨(.some 33), (.mov (.tmp 10)), .none⟩, ⟨(.some 34), (.nilC (.tmp 33)), .none⟩, ⟨(.some 35), (.fadr 1 (.tmp 34)), .none⟩, ⟨(.some 36), (.ld (.tmp 35)), .none⟩, ⟨(.some 37), (.mov (.tmp 3)), .none⟩, ⟨(.some 38), (.bin .lss (.tmp 36) (.tmp 37)), .none⟩]) (.cond (.tmp 38) .skip (.exit 0))) (.block 1 (.seq (.ops [⟨(.some 40), (.mov (.tmp 1)), .none⟩, ⟨(.some 41), (.mov (.tmp 0)), .none⟩, ⟨(.some 42), (.callm 47 [(.tmp 40), (.tmp 41)]), .none⟩, ⟨(.some 39), (.mov (.tmp 42)), .none⟩, ⟨(.some 43), (.ext (.tmp 39) 0), .none⟩, ⟨(.some 44), (.ext (.tmp 39) 1), .none⟩, ⟨(.some 11), (.mov (.tmp 43)), .none⟩, ⟨(.some 12), (.mov (.tmp 44)), .none⟩]) (.seq (.seq (.ops [⟨(.some 45), (.mov (.tmp 12)), .none⟩, ⟨(.some 46), (.bin .neq (.tmp 45) (.const (.int .i64 0))), .none⟩]) (.cond (.tmp 46) (.seq (.ops [⟨(.some 47), (.mov (.tmp 12)), .none⟩, ⟨(.some 8), (.mov (.const (.slice .none 0 0))), .none⟩, ⟨(.some 9), (.mov (.tmp 47)), .none⟩]) .ret) .skip)) (.seq (.draw [(⟨(.some 49), (.mov (.tmp 2)), .none⟩, (false, [])), (⟨(.some 50), (.mov (.tmp 10)), .none⟩, (false, [])), (⟨(.some 51), (.nilC (.tmp 50)), .none⟩, (false, [])), (⟨(.some 52), (.fadr 1 (.tmp 51)), .none⟩, (false, [])), (⟨(.some 53), (.ld (.tmp 52)), .none⟩, (false, [])), (⟨(.some 54), (.mov (.tmp 10)), .none⟩, (false, [])), (⟨(.some 55), (.nilC (.tmp 54)), .none⟩, (false, [])), (⟨(.some 56), (.fadr 2 (.tmp 55)), .none⟩, (false, [])), (⟨(.some 57), (.ld (.tmp 56)), .none⟩, (false, [])), (⟨(.some 58), (.un .not (.tmp 57)), .none⟩, (false, [])), (⟨(.some 59), (.mov (.tmp 3)), .none⟩, (false, [])), (⟨(.some 60), (.call 60 41 [(.tmp 49), (.tmp 53), (.tmp 58), (.tmp 59)]), .none⟩, (false, [32])), (⟨(.some 48), (.mov (.tmp 60)), .none⟩, (false, [])), (⟨(.some 61), (.ext (.tmp 48) 0), .none⟩, (false, [])), (⟨(.some 62), (.ext (.tmp 48) 1), .none⟩, (false, [])), (⟨(.some 13), (.mov (.tmp 61)), .none⟩, (false, [])), (⟨(.some 14), (.mov (.tmp 62)), .none⟩, (false, []))]) (.seq (.seq (.ops [⟨(.some 63), (.mov (.tmp 11)), .none⟩]) (.block 2 (.seq (.ops [⟨(.some 94), (.bin .eql (.tmp 63) (.const (.int .i64 5))), .none⟩, ⟨(.some 93), (.mov (.tmp 94)), .none⟩]) (.cond (.tmp 93) (.ops [⟨(.some 95), (.mov (.tmp 10)), .none⟩, ⟨(.some 96), (.mov (.tmp 14)), .none⟩, ⟨(.some 97), (.nilC (.tmp 95)), .none⟩, ⟨(.some 98), (.fadr 1 (.tmp 97)), .none⟩, ⟨.none, (.st 1 (.tmp 98) (.tmp 96)), .none⟩]) (.seq (.ops [⟨(.some 100), (.bin .eql (.tmp 63) (.const (.int .i64 4))), .none⟩, ⟨(.some 99), (.mov (.tmp 100)), .none⟩]) (.cond (.tmp 99) (.ops [⟨(.some 101), (.mov (.tmp 10)), .none⟩, ⟨(.some 102), (.mov (.tmp 0)), .none⟩, ⟨(.some 103), (.mov (.tmp 1)), .none⟩, ⟨(.some 104), (.callm 48 [(.tmp 101), (.tmp 102), (.tmp 103)]), .none⟩, ⟨(.some 12), (.mov (.tmp 104)), .none⟩]) (.seq (.ops [⟨(.some 64), (.mov (.tmp 13)), .none⟩, ⟨(.some 65), (.mov (.tmp 11)), .none⟩, ⟨(.some 66), (.bin .add (.tmp 64) (.tmp 65)), .none⟩, ⟨(.some 15), (.mov (.tmp 66)), .none⟩]) (.seq (.seq (.ops [⟨(.some 67), (.mov (.tmp 15)), .none⟩, ⟨(.some 68), (.mov (.tmp 10)), .none⟩, ⟨(.some 69), (.nilC (.tmp 68)), .none⟩, ⟨(.some 70), (.fadr 1 (.tmp 69)), .none⟩, ⟨(.some 71), (.ld (.tmp 70)), .none⟩, ⟨(.some 72), (.bin .leq (.tmp 67) (.tmp 71)), .none⟩, ⟨(.some 73), (.mov (.tmp 72)), .none⟩, ⟨(.some 74), (.mov (.tmp 15)), (.some (73, false))⟩, ⟨(.some 75), (.bin .lss (.tmp 74) (.const (.int .i64 0))), (.some (73, false))⟩, ⟨(.some 76), (.pick (.tmp 73) (.const (.bool true)) (.tmp 75)), .none⟩, ⟨(.some 77), (.mov (.tmp 76)), .none⟩, ⟨(.some 78), (.mov (.tmp 15)), (.some (77, false))⟩, ⟨(.some 79), (.mov (.tmp 3)), (.some (77, false))⟩, ⟨(.some 80), (.bin .gtr (.tmp 78) (.tmp 79)), (.some (77, false))⟩, ⟨(.some 81), (.pick (.tmp 77) (.const (.bool true)) (.tmp 80)), .none⟩]) (.cond (.tmp 81) (.seq (.ops [⟨(.some 8), (.mov (.const (.slice .none 0 0))), .none⟩, ⟨(.some 9), (.mov (.const (.int .i64 3))), .none⟩]) .ret) .skip)) (.seq (.ops [⟨(.some 82), (.mov (.tmp 10)), .none⟩, ⟨(.some 83), (.mov (.tmp 15)), .none⟩, ⟨(.some 84), (.callm 49 [(.tmp 82), (.tmp 83)]), .none⟩]) (.ops [⟨(.some 85), (.mov (.tmp 10)), .none⟩, ⟨(.some 86), (.mov (.tmp 10)), .none⟩, ⟨(.some 87), (.nilC (.tmp 86)), .none⟩, ⟨(.some 88), (.fadr 2 (.tmp 87)), .none⟩, ⟨(.some 89), (.ld (.tmp 88)), .none⟩, ⟨(.some 90), (.un .not (.tmp 89)), .none⟩, ⟨(.some 91), (.nilC (.tmp 85)), .none⟩, ⟨(.some 92), (.fadr 2 (.tmp 91)), .none⟩, ⟨.none, (.st 1 (.tmp 92) (.tmp 90)), .none⟩])))))))))) (.seq (.ops [⟨(.some 105), (.mov (.tmp 12)), .none⟩, ⟨(.some 106), (.bin .neq (.tmp 105) (.const (.int .i64 0))), .none⟩]) (.cond (.tmp 106) (.seq (.ops [⟨(.some 107), (.mov (.tmp 12)), .none⟩, ⟨(.some 8), (.mov (.const (.slice .none 0 0))), .none⟩, ⟨(.some 9), (.mov (.tmp 107)), .none⟩]) .ret) .skip)))))))))) (.seq (.ops [⟨(.some 108), (.mov (.tmp 10)), .none⟩, ⟨(.some 109), (.nilC (.tmp 108)), .none⟩, ⟨(.some 110), (.fadr 0 (.tmp 109)), .none⟩, ⟨(.some 111), (.ld (.tmp 110)), .none⟩, ⟨(.some 8), (.mov (.tmp 111)), .none⟩, ⟨(.some 9), (.mov (.const (.int .i64 0))), .none⟩]) .ret))))), [(8, .none), (9, .none)]⟩
theorem c28 : cmpF Tryd.prog [3000047, 3000048, 3000049] [] 28 = some a28 := by kernel_rfl
/-- on to a place: what the row is then -/
def toR (R : List Int) (x w : Int) : List Int := if x < w then togL R x else R
theorem to_m (R : List Int) (hR : R.length ≤ 1000) (x y w : Int) (b : Bool) : GivM Tryd.prog 49 [.ptr 2000001 0, .d (.c (.int .i64 x))] [(2000001, .box [.d (.lst 1 (li .i64 R)), .d (.c (.int .i64 y)), .d (.c (.bool b)), .d (.c (.int .i64 w))])] (.tup [])
    [(2000001, .box [.d (.lst 1 (li .i64 (toR R x w))), .d (.c (.int .i64 x)), .d (.c (.bool b)), .d (.c (.int .i64 w))])] := by
  refine GivM.of mixed c49 (Nat.le_of_ble_eq_true rfl) rfl rfl ?_
  by_cases h : x < w
  · simp -dsimp -implicitDefEqProofs (disch := first | omega | (simp only [List.length_append, List.length_cons, List.length_nil, List.length_take, List.length_drop]; omega)) only [a49, h, ↓aPre, aPost, oneW, allOne, retV, retVA, simprocAttr]
    refine call_giv (toggle_giv R x (by omega)) ?_
    simp -dsimp -implicitDefEqProofs (disch := first | omega | (simp only [List.length_append, List.length_cons, List.length_nil, List.length_take, List.length_drop]; omega)) only [↓aPre, aPost, oneW, allOne, retV, retVA, simprocAttr]
    refine end_of rfl ?_
    simp -dsimp -implicitDefEqProofs (disch := first | omega | (simp only [List.length_append, List.length_cons, List.length_nil, List.length_take, List.length_drop]; omega)) only [toR, if_pos h, ↓aPre, aPost, oneW, allOne, retV, retVA, simprocAttr]
  · simp -dsimp -implicitDefEqProofs (disch := first | omega | (simp only [List.length_append, List.length_cons, List.length_nil, List.length_take, List.length_drop]; omega)) only [a49, h, ↓aPre, aPost, oneW, allOne, retV, retVA, simprocAttr]
    refine end_of rfl ?_
    simp -dsimp -implicitDefEqProofs (disch := first | omega | (simp only [List.length_append, List.length_cons, List.length_nil, List.length_take, List.length_drop]; omega)) only [toR, if_neg h, ↓aPre, aPost, oneW, allOne, retV, retVA, simprocAttr]
theorem to_gw {row : List Int} {w : Int} (hR : rightW w row (-1) = true) (j : Nat) : toR (row.take j) (gw row w j) w = row.take (j + 1) := by
  unfold toR
  by_cases h : gw row w j < w
  · obtain ⟨c1, c2⟩ := gw_ne h
    rw [if_pos h, c2, tog_take hR c1]
  · have hle := gw_le hR j
    have := gw_eq hR (i := j) (by omega)
    rw [if_neg h, List.take_of_length_le this, List.take_of_length_le (by omega)]
theorem two_m (l : List Int) (hl : l.length ≤ 100000) (hB : Bytes l) (q : Nat) (row : List Int) (w y : Int) (j : Nat) (hw : 1 ≤ w ∧ w ≤ 300) (hr : row.length ≤ 300) (hR : rightW w row (-1) = true) (hSt : Stt row w y j) (hlt : y < w)
    (x z : Nat) (hx : gw row w j - max y 0 = (x : Int)) (hz : gw row w (j + 1) - gw row w j = (z : Int)) (A2 : At (bt l) q (lB (decide (j % 2 = 1)) x)) (A3 : At (bt l) (q + (lB (decide (j % 2 = 1)) x).length) (lB (decide (j % 2 = 0)) z)) (hq : q + (lB (decide (j % 2 = 1)) x).length + (lB (decide (j % 2 = 0)) z).length ≤ 8 * l.length) :
    GivM Tryd.prog 48 [.ptr 2000001 0, .ptr 2000000 0, .d coD] [(2000001, .box [.d (.lst 1 (li .i64 (row.take j))), .d (.c (.int .i64 y)), .d (.c (.bool (decide (j % 2 = 1)))), .d (.c (.int .i64 w))]), (2000000, .box [.sl 1000000 1 0 l.length, .d (.c (.int .i64 (q : Nat))), .d (.c (.bool false))]), (1000000, .row 1 (li .u8 l))] (.d (.c (.int .i64 0)))
    [(2000001, .box [.d (.lst 1 (li .i64 (row.take (j + 2)))), .d (.c (.int .i64 (gw row w (j + 1)))), .d (.c (.bool (decide (j % 2 = 1)))), .d (.c (.int .i64 w))]), (2000000, .box [.sl 1000000 1 0 l.length, .d (.c (.int .i64 ((q + (lB (decide (j % 2 = 1)) x).length + (lB (decide (j % 2 = 0)) z).length) : Nat))), .d (.c (.bool false))]), (1000000, .row 1 (li .u8 l))] := by
  have hgl := gw_le hR j
  have hgl2 := gw_le hR (j + 1)
  have hg0 := gw_ge hR (w := w) (by omega) j
  obtain ⟨C, hC⟩ : ∃ C : List D, coD = .ref C := ⟨_, rfl⟩
  have hrd : ∀ (q n : Nat) (bl : Bool) (most : Int), n ≤ 2000 → (n : Int) ≤ most → At (bt l) q (lB bl n) → q + (lB bl n).length ≤ 8 * l.length → GivM Tryd.prog 43 [.d (.ref C), .ptr 2000000 0, .d (.c (.int .i64 most)), .d (.c (.bool bl))] [(2000000, .box [.sl 1000000 1 0 l.length, .d (.c (.int .i64 (q : Nat))), .d (.c (.bool false))]), (1000000, .row 1 (li .u8 l))] (.tup [.d (.c (.int .i64 n)), .d (.c (.int .i64 0))]) [(2000000, .box [.sl 1000000 1 0 l.length, .d (.c (.int .i64 ((q + (lB bl n).length) : Nat))), .d (.c (.bool false))]), (1000000, .row 1 (li .u8 l))] := fun q n bl most h1 h2 h3 h4 => by
    have := rlen_m l hl hB q n bl most h1 h2 h3 h4
    rwa [hC] at this
  have hc1 := hrd q x (decide (j % 2 = 1)) (w - max y 0) (by omega) (by omega) A2 (by omega)
  have hc2 := hrd _ z (decide (j % 2 = 0)) (w - gw row w j) (by omega) (by omega) A3 hq
  have ht1 := to_m (row.take j) (by rw [List.length_take]; omega) (gw row w j) y w (decide (j % 2 = 1))
  have ht2 := to_m (row.take (j + 1)) (by rw [List.length_take]; omega) (gw row w (j + 1)) (gw row w j) w (decide (j % 2 = 1))
  rw [to_gw hR] at ht1
  rw [to_gw hR] at ht2
  rw [hC]
  obtain ⟨a1, h1⟩ : ∃ a1, a1 = gw row w j := ⟨_, rfl⟩
  obtain ⟨a2, h2⟩ : ∃ a2, a2 = gw row w (j + 1) := ⟨_, rfl⟩
  rw [← h1] at hc2 ht1 ht2 hgl hg0 hx hz
  rw [← h2] at ht2 hz hgl2 ⊢
  obtain ⟨u, hu⟩ : ∃ u, u = (lB (decide (j % 2 = 1)) x).length := ⟨_, rfl⟩
  obtain ⟨v, hv⟩ : ∃ v, v = (lB (decide (j % 2 = 0)) z).length := ⟨_, rfl⟩
  rw [← hu] at hc1 hc2 ⊢
  rw [← hv] at hc2 ⊢
  have hmx : (if 0 > y then 0 else y) = max y 0 := by split <;> omega
  obtain ⟨o, ho⟩ : ∃ o, o = max y 0 := ⟨_, rfl⟩
  rw [← ho] at hmx hc1 hx
  have hs1 : o + (x : Int) = a1 := by omega
  have hs2 : a1 + (z : Int) = a2 := by omega
  refine GivM.of mixed c48 (Nat.le_of_ble_eq_true rfl) rfl rfl ?_
  simp -dsimp -implicitDefEqProofs (disch := first | omega | (simp only [List.length_append, List.length_cons, List.length_nil, List.length_take, List.length_drop]; omega)) only [a48, hmx, par2, ↓aPre, aPost, oneW, allOne, retV, retVA, simprocAttr]
  refine loop_of (fun s => ∃ (k : Nat), k ≤ 2 ∧ s.tm 0 = .ptr 2000001 0 ∧ s.tm 1 = .ptr 2000000 0 ∧ s.tm 2 = .d (.ref C) ∧ s.tm 7 = .d (.c (.int .i64 (if k = 0 then o else if k = 1 then a1 else a2))) ∧ s.tm 26 = .d (.lst 1 [.c (.bool (decide (j % 2 = 1))), .c (.bool (decide (j % 2 = 0)))]) ∧ s.tm 27 = .d (.c (.int .i64 2)) ∧ s.tm 28 = .d (.c (.int .i64 k)) ∧ s.hp 2000001 = some (.box [.d (.lst 1 (li .i64 (row.take (j + k)))), .d (.c (.int .i64 (if k = 0 then y else if k = 1 then a1 else a2))), .d (.c (.bool (decide (j % 2 = 1)))), .d (.c (.int .i64 w))]) ∧ s.hp 2000000 = some (.box [.sl 1000000 1 0 l.length, .d (.c (.int .i64 ((if k = 0 then q else if k = 1 then q + u else q + u + v) : Nat))), .d (.c (.bool false))]) ∧ s.hp 1000000 = some (.row 1 (li .u8 l))) (fun s => 2 - (avN (s.tm 28)).toNat) ?_ ?_
  · refine ⟨0, Nat.zero_le _, ?_⟩
    simp -dsimp -implicitDefEqProofs (disch := first | omega | (simp only [List.length_append, List.length_cons, List.length_nil, List.length_take, List.length_drop]; omega)) only [Int.natCast_zero, if_true, Nat.add_zero, ↓aPre, aPost, oneW, allOne, retV, retVA, simprocAttr]
  rintro s ⟨k, hk, hs⟩
  obtain rfl | rfl | rfl : k = 0 ∨ k = 1 ∨ k = 2 := by omega
  · simp only [if_true, Nat.add_zero, Int.natCast_zero] at hs
    simp -dsimp -implicitDefEqProofs (disch := first | omega | (simp only [List.length_append, List.length_cons, List.length_nil, List.length_take, List.length_drop]; omega)) only [hs, List.getD_cons_zero, List.getD_cons_succ, ↓aPre, aPost, oneW, allOne, retV, retVA, simprocAttr]
    refine call_mut hc1 [] rfl rfl ?_ ?_
    · simp -dsimp -implicitDefEqProofs (disch := first | omega | (simp only [List.length_append, List.length_cons, List.length_nil, List.length_take, List.length_drop]; omega)) only [hs, ↓aPre, aPost, oneW, allOne, retV, retVA, simprocAttr]
    simp -dsimp -implicitDefEqProofs (disch := first | omega | (simp only [List.length_append, List.length_cons, List.length_nil, List.length_take, List.length_drop]; omega)) only [hs, ibne_f, hs1, ↓aPre, aPost, oneW, allOne, retV, retVA, simprocAttr]
    refine call_mut ht1 [] rfl rfl ?_ ?_
    · simp -dsimp -implicitDefEqProofs (disch := first | omega | (simp only [List.length_append, List.length_cons, List.length_nil, List.length_take, List.length_drop]; omega)) only [hs, ↓aPre, aPost, oneW, allOne, retV, retVA, simprocAttr]
    simp -dsimp -implicitDefEqProofs (disch := first | omega | (simp only [List.length_append, List.length_cons, List.length_nil, List.length_take, List.length_drop]; omega)) only [hs, ↓aPre, aPost, oneW, allOne, retV, retVA, simprocAttr]
    refine round_of ⟨1, by decide, ?_⟩ ?_
    · simp only [if_true, if_false, Int.natCast_one, Nat.one_ne_zero]
      simp -dsimp -implicitDefEqProofs (disch := first | omega | (simp only [List.length_append, List.length_cons, List.length_nil, List.length_take, List.length_drop]; omega)) only [hs, ↓aPre, aPost, oneW, allOne, retV, retVA, simprocAttr]
    · simp -dsimp -implicitDefEqProofs (disch := first | omega | (simp only [List.length_append, List.length_cons, List.length_nil, List.length_take, List.length_drop]; omega)) only [hs, ↓aPre, aPost, oneW, allOne, retV, retVA, simprocAttr]
  · simp only [if_true, if_false, Int.natCast_one, Nat.one_ne_zero] at hs
    simp -dsimp -implicitDefEqProofs (disch := first | omega | (simp only [List.length_append, List.length_cons, List.length_nil, List.length_take, List.length_drop]; omega)) only [hs, List.getD_cons_zero, List.getD_cons_succ, ↓aPre, aPost, oneW, allOne, retV, retVA, simprocAttr]
    refine call_mut hc2 [] rfl rfl ?_ ?_
    · simp -dsimp -implicitDefEqProofs (disch := first | omega | (simp only [List.length_append, List.length_cons, List.length_nil, List.length_take, List.length_drop]; omega)) only [hs, ↓aPre, aPost, oneW, allOne, retV, retVA, simprocAttr]
    simp -dsimp -implicitDefEqProofs (disch := first | omega | (simp only [List.length_append, List.length_cons, List.length_nil, List.length_take, List.length_drop]; omega)) only [hs, ibne_f, hs2, ↓aPre, aPost, oneW, allOne, retV, retVA, simprocAttr]
    refine call_mut ht2 [] rfl rfl ?_ ?_
    · simp -dsimp -implicitDefEqProofs (disch := first | omega | (simp only [List.length_append, List.length_cons, List.length_nil, List.length_take, List.length_drop]; omega)) only [hs, ↓aPre, aPost, oneW, allOne, retV, retVA, simprocAttr]
    simp -dsimp -implicitDefEqProofs (disch := first | omega | (simp only [List.length_append, List.length_cons, List.length_nil, List.length_take, List.length_drop]; omega)) only [hs, ↓aPre, aPost, oneW, allOne, retV, retVA, simprocAttr]
    refine round_of ⟨2, by decide, ?_⟩ ?_
    · simp -dsimp -implicitDefEqProofs (disch := first | omega | (simp only [List.length_append, List.length_cons, List.length_nil, List.length_take, List.length_drop]; omega)) only [hs, ↓aPre, aPost, oneW, allOne, retV, retVA, simprocAttr]
    · simp -dsimp -implicitDefEqProofs (disch := first | omega | (simp only [List.length_append, List.length_cons, List.length_nil, List.length_take, List.length_drop]; omega)) only [hs, ↓aPre, aPost, oneW, allOne, retV, retVA, simprocAttr]
  · simp -dsimp -implicitDefEqProofs (disch := first | omega | (simp only [List.length_append, List.length_cons, List.length_nil, List.length_take, List.length_drop]; omega)) only [hs, ↓aPre, aPost, oneW, allOne, retV, retVA, simprocAttr]
    refine end_of rfl ?_
    simp -dsimp -implicitDefEqProofs (disch := first | omega | (simp only [List.length_append, List.length_cons, List.length_nil, List.length_take, List.length_drop]; omega)) only [hs, ↓aPre, aPost, oneW, allOne, retV, retVA, simprocAttr]
end Go.Proofs.YtihgplkfikpgbaaDoor
namespace Go.Proofs.YtihgplkfikpgbaaDoor
open Go.Eng Go.RowKit
theorem rag_m (l : List Int) (hl : l.length ≤ 100000) (hBy : Bytes l) (p : Nat) (row above : List Int) (w : Int) (hw : 1 ≤ w ∧ w ≤ 300) (hr : row.length ≤ 300) (hR : rightW w row (-1) = true) (hb : above.length ≤ 300) (hB : rightW w above (-1) = true) (hA : At (bt l) p (agR w row above)) (hp : p + (agR w row above).length ≤ 8 * l.length) :
    GivM Tryd.prog 28 [.ptr 2000000 0, .d coD, .d (.lst 1 (li .i64 above)), .d (.c (.int .i64 w))] [(2000000, .box [.sl 1000000 1 0 l.length, .d (.c (.int .i64 (p : Nat))), .d (.c (.bool false))]), (1000000, .row 1 (li .u8 l))] (.tup [.d (.lst 1 (li .i64 row)), .d (.c (.int .i64 0))]) [(2000000, .box [.sl 1000000 1 0 l.length, .d (.c (.int .i64 ((p + (agR w row above).length) : Nat))), .d (.c (.bool false))]), (1000000, .row 1 (li .u8 l))] := by
  obtain ⟨T, hT⟩ : ∃ T, T = p + (agR w row above).length := ⟨_, rfl⟩
  rw [← hT] at hp ⊢
  have htw : ∀ (q : Nat) (y : Int) (j : Nat), Stt row w y j → y < w → ∀ (x z : Nat), gw row w j - max y 0 = (x : Int) → gw row w (j + 1) - gw row w j = (z : Int) → At (bt l) q (lB (decide (j % 2 = 1)) x) → At (bt l) (q + (lB (decide (j % 2 = 1)) x).length) (lB (decide (j % 2 = 0)) z) → q + (lB (decide (j % 2 = 1)) x).length + (lB (decide (j % 2 = 0)) z).length ≤ 8 * l.length → _ := fun q y j h1 h2 x z h3 h4 h5 h6 h7 => two_m l hl hBy q row w y j hw hr hR h1 h2 x z h3 h4 h5 h6 h7
  have hrm := fun (q : Nat) (d : Int) (h1 : -3 ≤ d ∧ d ≤ 5) (h2 : At (bt l) q (mW d)) (h3 : q + (mW d).length ≤ 8 * l.length) => rmode_m l hl hBy q d h1 h2 h3
  obtain ⟨C, hC⟩ : ∃ C : List D, coD = .ref C := ⟨_, rfl⟩
  rw [hC] at htw hrm ⊢
  have hr2 := right_giv above w (by omega)
  rw [hB] at hr2
  refine GivM.of mixed c28 (Nat.le_of_ble_eq_true rfl) rfl rfl ?_
  simp -dsimp -implicitDefEqProofs (disch := first | omega | (simp only [List.length_append, List.length_cons, List.length_nil, List.length_take, List.length_drop]; omega)) only [a28, ↓aPre, aPost, oneW, allOne, retV, retVA, simprocAttr]
  refine call_giv (fits_giv w hw) ?_
  simp -dsimp -implicitDefEqProofs (disch := first | omega | (simp only [List.length_append, List.length_cons, List.length_nil, List.length_take, List.length_drop]; omega)) only [↓aPre, aPost, oneW, allOne, retV, retVA, simprocAttr]
  refine call_giv hr2 ?_
  simp -dsimp -implicitDefEqProofs (disch := first | omega | (simp only [List.length_append, List.length_cons, List.length_nil, List.length_take, List.length_drop]; omega)) only [↓aPre, aPost, oneW, allOne, retV, retVA, simprocAttr]
  refine loop_gh (Gh.celI (n := 32) (m := 29) (es := 1) (len := 0) (L := []) (cs := [.d (.c (.int .i64 (-1))), .d (.c (.bool false)), .d (.c (.int .i64 w))]) (by simp -dsimp -implicitDefEqProofs (disch := first | omega | (simp only [List.length_append, List.length_cons, List.length_nil, List.length_take, List.length_drop]; omega)) only [↓aPre, aPost, oneW, allOne, retV, retVA, simprocAttr]) (by simp -dsimp -implicitDefEqProofs (disch := first | omega | (simp only [List.length_append, List.length_cons, List.length_nil, List.length_take, List.length_drop]; omega)) only [↓aPre, aPost, oneW, allOne, retV, retVA, simprocAttr]) rfl (by decide) (by decide)) (fun s => ∃ (k j q : Nat) (y : Int), Stt row w y j ∧ w ≤ y + k ∧ At (bt l) q (ag mW lB row above w k y j) ∧ q + (ag mW lB row above w k y j).length = T ∧ s.tm 0 = .ptr 2000000 0 ∧ s.tm 1 = .d (.ref C) ∧ s.tm 2 = .d (.lst 1 (li .i64 above)) ∧ s.tm 3 = .d (.c (.int .i64 w)) ∧ s.tm 10 = .ptr 32 0 ∧ s.hp 32 = some (.box [.d (.lst 1 (li .i64 (row.take j))), .d (.c (.int .i64 y)), .d (.c (.bool (decide (j % 2 = 1)))), .d (.c (.int .i64 w))]) ∧ s.hp 2000000 = some (.box [.sl 1000000 1 0 l.length, .d (.c (.int .i64 (q : Nat))), .d (.c (.bool false))]) ∧ s.hp 1000000 = some (.row 1 (li .u8 l))) (fun s => (400 - bxN (s.hp 32) 1).toNat) ?_ ?_
  · refine ⟨w.toNat + 1, 0, p, -1, stt_0 hR hw.1, by omega, hA, hT.symm, ?_⟩
    simp -dsimp -implicitDefEqProofs (disch := first | omega | (simp only [List.length_append, List.length_cons, List.length_nil, List.length_take, List.length_drop]; omega)) only [li_nil, List.take_zero, ↓aPre, aPost, oneW, allOne, retV, retVA, simprocAttr]
  rintro s ⟨k, j, q, y, hSt, hk, hA, hm, hs⟩
  have hy1 := hSt.1
  have hav : bxN (s.hp 32) 1 = y := by
    rw [hs.2.2.2.2.2.1]
    rfl
  by_cases hlt : y < w
  · obtain ⟨k, rfl⟩ : ∃ k', k = k' + 1 := ⟨k - 1, by omega⟩
    obtain ⟨a1, h1⟩ : ∃ a1, a1 = gw row w j := ⟨_, rfl⟩
    obtain ⟨a2, h2⟩ : ∃ a2, a2 = gw row w (j + 1) := ⟨_, rfl⟩
    obtain ⟨b1, h3⟩ : ∃ b1, b1 = (nxt w y (decide (j % 2 = 0)) above 0).1 := ⟨_, rfl⟩
    obtain ⟨b2, h4⟩ : ∃ b2, b2 = (nxt w y (decide (j % 2 = 0)) above 0).2 := ⟨_, rfl⟩
    have hg2 := nx_giv (l := above) (fr := y) (w := w) (bl := decide (j % 2 = 0)) hb h3 h4
    have hbb := nxt_b (bl := decide (j % 2 = 0)) hlt hB (i := 0)
    rw [← h3, ← h4] at hbb
    have hga := stt_gw hSt hlt
    have hgl := gw_le hR j
    have hgl2 := gw_le hR (j + 1)
    have hgg := gw_lt hR j
    have hg0 := gw_ge hR (by omega) j
    rw [ag_step hlt h1 h2 h3 h4] at hA hm
    by_cases c1 : b2 < a1
    · rw [if_pos c1] at hA hm
      obtain ⟨A1, A2⟩ := hA.app
      rw [List.length_append] at hm
      have hc := hrm q 5 (by omega) A1 (by omega)
      have hS2 := stt_pass hR hSt hlt (x := b2) (by omega) (by omega)
      simp -dsimp -implicitDefEqProofs (disch := first | omega | (simp only [List.length_append, List.length_cons, List.length_nil, List.length_take, List.length_drop]; omega)) only [hs, ↓aPre, aPost, oneW, allOne, retV, retVA, simprocAttr]
      refine call_mut hc [] rfl rfl ?_ ?_
      · simp -dsimp -implicitDefEqProofs (disch := first | omega | (simp only [List.length_append, List.length_cons, List.length_nil, List.length_take, List.length_drop]; omega)) only [hs, ↓aPre, aPost, oneW, allOne, retV, retVA, simprocAttr]
      simp -dsimp -implicitDefEqProofs (disch := first | omega | (simp only [List.length_append, List.length_cons, List.length_nil, List.length_take, List.length_drop]; omega)) only [hs, ibne_f, ibeq_t, par2, ↓aPre, aPost, oneW, allOne, retV, retVA, simprocAttr]
      refine call_giv hg2 ?_
      simp -dsimp -implicitDefEqProofs (disch := first | omega | (simp only [List.length_append, List.length_cons, List.length_nil, List.length_take, List.length_drop]; omega)) only [hs, ibne_f, ibeq_t, ↓aPre, aPost, oneW, allOne, retV, retVA, simprocAttr]
      refine round_of ⟨k, j, q + (mW 5).length, b2, hS2, by omega, A2, by omega, ?_⟩ ?_
      · simp -dsimp -implicitDefEqProofs (disch := first | omega | (simp only [List.length_append, List.length_cons, List.length_nil, List.length_take, List.length_drop]; omega)) only [hs, ↓aPre, aPost, oneW, allOne, retV, retVA, simprocAttr]
      · simp -dsimp -implicitDefEqProofs (disch := first | omega | (simp only [List.length_append, List.length_cons, List.length_nil, List.length_take, List.length_drop]; omega)) only [hs, bxN_b, ↓aPre, aPost, oneW, allOne, retV, retVA, simprocAttr]
        omega
    rw [if_neg c1] at hA hm
    by_cases c2 : -3 ≤ a1 - b1 ∧ a1 - b1 ≤ 3
    · rw [if_pos c2] at hA hm
      obtain ⟨A1, A2⟩ := hA.app
      rw [List.length_append] at hm
      obtain ⟨d, hd⟩ : ∃ d, d = a1 - b1 := ⟨_, rfl⟩
      rw [← hd] at A1 A2 hm c2
      have hc := hrm q d (by omega) A1 (by omega)
      have hd' : b1 + d = a1 := by omega
      have d5 : ¬ d = 5 := by omega
      have d4 : ¬ d = 4 := by omega
      have e1 : ¬ a1 ≤ y := by omega
      have e2 : ¬ a1 < 0 := by omega
      have e3 : ¬ a1 > w := by omega
      have hS2 := stt_one hR hSt hlt
      have ht := to_m (row.take j) (by rw [List.length_take]; omega) (gw row w j) y w (decide (j % 2 = 1))
      rw [to_gw hR, ← h1] at ht
      rw [← h1] at hS2
      simp -dsimp -implicitDefEqProofs (disch := first | omega | (simp only [List.length_append, List.length_cons, List.length_nil, List.length_take, List.length_drop]; omega)) only [hs, ↓aPre, aPost, oneW, allOne, retV, retVA, simprocAttr]
      refine call_mut hc [] rfl rfl ?_ ?_
      · simp -dsimp -implicitDefEqProofs (disch := first | omega | (simp only [List.length_append, List.length_cons, List.length_nil, List.length_take, List.length_drop]; omega)) only [hs, ↓aPre, aPost, oneW, allOne, retV, retVA, simprocAttr]
      simp -dsimp -implicitDefEqProofs (disch := first | omega | (simp only [List.length_append, List.length_cons, List.length_nil, List.length_take, List.length_drop]; omega)) only [hs, ibne_f, ibeq_t, ibeq_f d5, ibeq_f d4, par2, ↓aPre, aPost, oneW, allOne, retV, retVA, simprocAttr]
      refine call_giv hg2 ?_
      simp -dsimp -implicitDefEqProofs (disch := first | omega | (simp only [List.length_append, List.length_cons, List.length_nil, List.length_take, List.length_drop]; omega)) only [hs, ibne_f, ibeq_f d5, ibeq_f d4, hd', e1, e2, e3, ↓aPre, aPost, oneW, allOne, retV, retVA, simprocAttr]
      refine call_mut ht [(2000001, 32)] rfl rfl ?_ ?_
      · simp -dsimp -implicitDefEqProofs (disch := first | omega | (simp only [List.length_append, List.length_cons, List.length_nil, List.length_take, List.length_drop]; omega)) only [hs, ↓aPre, aPost, oneW, allOne, retV, retVA, simprocAttr]
      simp -dsimp -implicitDefEqProofs (disch := first | omega | (simp only [List.length_append, List.length_cons, List.length_nil, List.length_take, List.length_drop]; omega)) only [hs, ibne_f, par1, ↓aPre, aPost, oneW, allOne, retV, retVA, simprocAttr]
      refine round_of ⟨k, j + 1, q + (mW d).length, a1, hS2, by omega, A2, by omega, ?_⟩ ?_
      · simp -dsimp -implicitDefEqProofs (disch := first | omega | (simp only [List.length_append, List.length_cons, List.length_nil, List.length_take, List.length_drop]; omega)) only [hs, ↓aPre, aPost, oneW, allOne, retV, retVA, simprocAttr]
      · simp -dsimp -implicitDefEqProofs (disch := first | omega | (simp only [List.length_append, List.length_cons, List.length_nil, List.length_take, List.length_drop]; omega)) only [hs, bxN_b, ↓aPre, aPost, oneW, allOne, retV, retVA, simprocAttr]
        omega
    rw [if_neg c2] at hA hm
    obtain ⟨A1, A2⟩ := hA.app
    obtain ⟨A2, A3⟩ := A2.app
    obtain ⟨A3, A4⟩ := A3.app
    rw [List.length_append, List.length_append, List.length_append] at hm
    obtain ⟨x, hx⟩ : ∃ x : Nat, a1 - max y 0 = (x : Int) := ⟨(a1 - max y 0).toNat, by omega⟩
    obtain ⟨z, hz⟩ : ∃ z : Nat, a2 - a1 = (z : Int) := ⟨(a2 - a1).toNat, by omega⟩
    rw [hx] at A2 A3 A4 hm
    rw [hz] at A3 A4 hm
    have hc1 := hrm q 4 (by omega) A1 (by omega)
    have hc2 := htw _ y j hSt hlt x z (by rw [← h1]; exact hx) (by rw [← h1, ← h2]; exact hz) A2 A3 (by omega)
    rw [← h2] at hc2
    have hS2 := stt_two hR hSt hlt
    rw [← h2] at hS2
    have hle : a1 ≤ a2 := by omega
    have hpar : decide (j % 2 = 1) = decide ((j + 2) % 2 = 1) := by simp only [decide_eq_decide]; omega
    simp -dsimp -implicitDefEqProofs (disch := first | omega | (simp only [List.length_append, List.length_cons, List.length_nil, List.length_take, List.length_drop]; omega)) only [hs, ↓aPre, aPost, oneW, allOne, retV, retVA, simprocAttr]
    refine call_mut hc1 [] rfl rfl ?_ ?_
    · simp -dsimp -implicitDefEqProofs (disch := first | omega | (simp only [List.length_append, List.length_cons, List.length_nil, List.length_take, List.length_drop]; omega)) only [hs, ↓aPre, aPost, oneW, allOne, retV, retVA, simprocAttr]
    simp -dsimp -implicitDefEqProofs (disch := first | omega | (simp only [List.length_append, List.length_cons, List.length_nil, List.length_take, List.length_drop]; omega)) only [hs, ibne_f, ibeq_t, ibeq_f, par2, ↓aPre, aPost, oneW, allOne, retV, retVA, simprocAttr]
    refine call_giv hg2 ?_
    simp -dsimp -implicitDefEqProofs (disch := first | omega | (simp only [List.length_append, List.length_cons, List.length_nil, List.length_take, List.length_drop]; omega)) only [hs, ibne_f, ibeq_f, ibeq_t, ↓aPre, aPost, oneW, allOne, retV, retVA, simprocAttr]
    refine call_mut hc2 [(2000001, 32)] rfl rfl ?_ ?_
    · simp -dsimp -implicitDefEqProofs (disch := first | omega | (simp only [List.length_append, List.length_cons, List.length_nil, List.length_take, List.length_drop]; omega)) only [hs, ↓aPre, aPost, oneW, allOne, retV, retVA, simprocAttr]
    simp -dsimp -implicitDefEqProofs (disch := first | omega | (simp only [List.length_append, List.length_cons, List.length_nil, List.length_take, List.length_drop]; omega)) only [hs, ibne_f, ↓aPre, aPost, oneW, allOne, retV, retVA, simprocAttr]
    refine round_of ⟨k, j + 2, q + (mW 4).length + (lB (decide (j % 2 = 1)) x).length + (lB (decide (j % 2 = 0)) z).length, a2, hS2, by omega, A4, by omega, ?_⟩ ?_
    · simp -dsimp -implicitDefEqProofs (disch := first | omega | (simp only [List.length_append, List.length_cons, List.length_nil, List.length_take, List.length_drop]; omega)) only [hs, hpar, ↓aPre, aPost, oneW, allOne, retV, retVA, simprocAttr]
    · simp -dsimp -implicitDefEqProofs (disch := first | omega | (simp only [List.length_append, List.length_cons, List.length_nil, List.length_take, List.length_drop]; omega)) only [hs, bxN_b, ↓aPre, aPost, oneW, allOne, retV, retVA, simprocAttr]
      omega
  · have e : y = w := by have := hSt.2.1; omega
    rw [ag_done _ (by omega), List.length_nil, Nat.add_zero] at hm
    subst hm
    have htk := stt_end hSt e
    simp -dsimp -implicitDefEqProofs (disch := first | omega | (simp only [List.length_append, List.length_cons, List.length_nil, List.length_take, List.length_drop]; omega)) only [hs, htk, ↓aPre, aPost, oneW, allOne, retV, retVA, simprocAttr]
    refine end_of rfl ?_
    simp -dsimp -implicitDefEqProofs (disch := first | omega | (simp only [List.length_append, List.length_cons, List.length_nil, List.length_take, List.length_drop]; omega)) only [hs, ↓aPre, aPost, oneW, allOne, retV, retVA, simprocAttr]
end Go.Proofs.YtihgplkfikpgbaaDoor
