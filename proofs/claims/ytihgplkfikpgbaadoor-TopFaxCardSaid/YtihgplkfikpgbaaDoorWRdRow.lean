/- A row read by its lengths. No condition but what each says. A row written by the row above. No condition but what each says. -/
import Derived.Test.YtihgplkfikpgbaaDoorLPg
import Derived.Test.YtihgplkfikpgbaaDoorWGb
set_option linter.unusedSimpArgs false
set_option linter.unusedVariables false
set_option maxRecDepth 8000
set_option maxHeartbeats 4000000
namespace Go.Proofs.YtihgplkfikpgbaaDoor
open Go.Eng Go.RowKit
def a24 : AFn := ⟨46, (.seq (.ops [⟨(.some 6), (.mov (.const (.slice .none 0 0))), .none⟩, ⟨(.some 7), (.mov (.const (.int .i64 0))), .none⟩]) (.seq (.seq (.ops [⟨(.some 13), (.mov (.tmp 1)), .none⟩, ⟨(.some 14), (.isNilP false (.tmp 13)), .none⟩, ⟨(.some 15), (.mov (.tmp 14)), .none⟩, ⟨(.some 16), (.mov (.tmp 2)), (.some (15, false))⟩, ⟨(.some 17), (.call 17 16 [(.tmp 16)]), (.some (15, false))⟩, ⟨(.some 18), (.un .not (.tmp 17)), (.some (15, false))⟩, ⟨(.some 19), (.pick (.tmp 15) (.const (.bool true)) (.tmp 18)), .none⟩]) (.cond (.tmp 19) (.seq (.ops [⟨(.some 6), (.mov (.const (.slice .none 0 0))), .none⟩, ⟨(.some 7), (.mov (.const (.int .i64 1))), .none⟩]) .ret) .skip)) (.seq (.ops [⟨(.some 20), (.lit0 20 1), .none⟩, ⟨(.some 8), (.mov (.tmp 20)), .none⟩, ⟨(.some 9), (.mov (.const (.int .i64 0))), .none⟩]) (.seq (.ops [⟨(.some 10), (.mov (.const (.bool false))), .none⟩]) (.block 0 (.loop (.seq (.block 1 (.seq (.ops [⟨(.some 24), (.mov (.tmp 1)), .none⟩, ⟨(.some 25), (.mov (.tmp 0)), .none⟩, ⟨(.some 26), (.mov (.tmp 2)), .none⟩, ⟨(.some 27), (.mov (.tmp 9)), .none⟩, ⟨(.some 28), (.bin .sub (.tmp 26) (.tmp 27)), .none⟩, ⟨(.some 29), (.mov (.tmp 10)), .none⟩, ⟨(.some 30), (.callm 43 [(.tmp 24), (.tmp 25), (.tmp 28), (.tmp 29)]), .none⟩, ⟨(.some 23), (.mov (.tmp 30)), .none⟩, ⟨(.some 31), (.ext (.tmp 23) 0), .none⟩, ⟨(.some 32), (.ext (.tmp 23) 1), .none⟩, ⟨(.some 11), (.mov (.tmp 31)), .none⟩, ⟨(.some 12), (.mov (.tmp 32)), .none⟩]) (.seq (.seq (.ops [⟨(.some 33), (.mov (.tmp 12)), .none⟩, ⟨(.some 34), (.bin .neq (.tmp 33) (.const (.int .i64 0))), .none⟩]) (.cond (.tmp 34) (.seq (.ops [⟨(.some 35), (.mov (.tmp 12)), .none⟩, ⟨(.some 6), (.mov (.const (.slice .none 0 0))), .none⟩, ⟨(.some 7), (.mov (.tmp 35)), .none⟩]) .ret) .skip)) (.seq (.seq (.ops [⟨(.some 36), (.mov (.tmp 9)), .none⟩, ⟨(.some 37), (.mov (.tmp 11)), .none⟩, ⟨(.some 38), (.bin .add (.tmp 36) (.tmp 37)), .none⟩, ⟨(.some 9), (.mov (.tmp 38)), .none⟩]) (.seq (.ops [⟨(.some 39), (.mov (.tmp 9)), .none⟩, ⟨(.some 40), (.mov (.tmp 2)), .none⟩, ⟨(.some 41), (.bin .eql (.tmp 39) (.tmp 40)), .none⟩]) (.cond (.tmp 41) (.seq (.ops [⟨(.some 42), (.mov (.tmp 8)), .none⟩, ⟨(.some 6), (.mov (.tmp 42)), .none⟩, ⟨(.some 7), (.mov (.const (.int .i64 0))), .none⟩]) .ret) .skip))) (.ops [⟨(.some 43), (.mov (.tmp 8)), .none⟩, ⟨(.some 44), (.mov (.tmp 9)), .none⟩, ⟨(.some 45), (.call 45 44 [(.tmp 43), (.tmp 44)]), .none⟩, ⟨(.some 8), (.mov (.tmp 45)), .none⟩]))))) (.ops [⟨(.some 21), (.mov (.tmp 10)), .none⟩, ⟨(.some 22), (.un .not (.tmp 21)), .none⟩, ⟨(.some 10), (.mov (.tmp 22)), .none⟩])))))))), [(6, .none), (7, .none)]⟩
theorem c24 : cmpF Tryd.prog [3000043] [] 24 = some a24 := by kernel_rfl
theorem par1 (k : Nat) : (!decide (k % 2 = 1)) = decide ((k + 1) % 2 = 1) := by
  by_cases h : k % 2 = 1
  · rw [decide_eq_true h, decide_eq_false (by omega)]; rfl
  · rw [decide_eq_false h, decide_eq_true (by omega)]; rfl
theorem par2 (k : Nat) : (!decide (k % 2 = 1)) = decide (k % 2 = 0) := by
  by_cases h : k % 2 = 1
  · rw [decide_eq_true h, decide_eq_false (by omega)]; rfl
  · rw [decide_eq_false h, decide_eq_true (by omega)]; rfl
theorem snoc_gw (row : List Int) (w : Int) {k : Nat} (hk : k ≤ row.length) : (row ++ [w]).getD k 0 = gw row w k := by
  rw [getD_app, gw]
  by_cases c : k < row.length
  · rw [if_pos c, if_pos c]
  · rw [if_neg c, if_neg c, if_pos (by omega)]
theorem was_gw {row : List Int} {w : Int} (h : rightW w row (-1) = true) (hw : 0 ≤ w) : ∀ {k : Nat}, k ≤ row.length → 0 ≤ wasK (row ++ [w]) k ∧ wasK (row ++ [w]) k ≤ gw row w k
  | 0, _ => ⟨Int.le_refl _, gw_ge h hw 0⟩
  | k + 1, hk => by
    rw [wasK, snoc_gw row w (by omega)]
    refine ⟨gw_ge h hw k, ?_⟩
    rcases gw_lt h k with h1 | h1
    · omega
    · have := gw_eq h h1.1
      omega
theorem tog_take {row : List Int} {w : Int} (h : rightW w row (-1) = true) {k : Nat} (hk : k < row.length) : togL (row.take k) (row.getD k 0) = row.take (k + 1) := by
  have hl : (row.take k).length = k := by rw [List.length_take]; omega
  rw [togL, hl, if_neg, take_at hk]
  rintro ⟨h1, h2⟩
  rw [getD_take, if_pos (by omega)] at h2
  have := rw_mono h (i := k - 1) (j := k) (by omega) hk
  omega
theorem rrow_m (l : List Int) (hl : l.length ≤ 100000) (hB : Bytes l) (p : Nat) (row : List Int) (w : Int) (hw : 1 ≤ w ∧ w ≤ 300) (hr : row.length ≤ 300) (hR : rightW w row (-1) = true) (hA : At (bt l) p (rowS (lens w row) 0)) (hp : p + (rowS (lens w row) 0).length ≤ 8 * l.length) :
    GivM Tryd.prog 24 [.ptr 2000000 0, .d coD, .d (.c (.int .i64 w))] [(2000000, .box [.sl 1000000 1 0 l.length, .d (.c (.int .i64 (p : Nat))), .d (.c (.bool false))]), (1000000, .row 1 (li .u8 l))] (.tup [.d (.lst 1 (li .i64 row)), .d (.c (.int .i64 0))]) [(2000000, .box [.sl 1000000 1 0 l.length, .d (.c (.int .i64 ((p + (rowS (lens w row) 0).length) : Nat))), .d (.c (.bool false))]), (1000000, .row 1 (li .u8 l))] := by
  have hLl := lens_len w row
  obtain ⟨L, hLe⟩ : ∃ L, L = lens w row := ⟨_, rfl⟩
  rw [← hLe] at hA hp hLl ⊢
  have hLg : ∀ k, k ≤ row.length → L.getD k 0 = gw row w k - wasK (row ++ [w]) k := fun k hk => by
    rw [hLe, lens, lenK_get _ _ _ (by omega), snoc_gw row w hk]
  obtain ⟨T, hT⟩ : ∃ T, T = p + (rowS L 0).length := ⟨_, rfl⟩
  rw [← hT] at hp ⊢
  obtain ⟨C, hC⟩ : ∃ C : List D, coD = .ref C := ⟨_, rfl⟩
  have hrd : ∀ (q n : Nat) (bl : Bool) (most : Int), n ≤ 2000 → (n : Int) ≤ most → At (bt l) q (lB bl n) → q + (lB bl n).length ≤ 8 * l.length → GivM Tryd.prog 43 [.d (.ref C), .ptr 2000000 0, .d (.c (.int .i64 most)), .d (.c (.bool bl))] [(2000000, .box [.sl 1000000 1 0 l.length, .d (.c (.int .i64 (q : Nat))), .d (.c (.bool false))]), (1000000, .row 1 (li .u8 l))] (.tup [.d (.c (.int .i64 n)), .d (.c (.int .i64 0))]) [(2000000, .box [.sl 1000000 1 0 l.length, .d (.c (.int .i64 ((q + (lB bl n).length) : Nat))), .d (.c (.bool false))]), (1000000, .row 1 (li .u8 l))] := fun q n bl most h1 h2 h3 h4 => by
    have := rlen_m l hl hB q n bl most h1 h2 h3 h4
    rwa [hC] at this
  rw [hC]
  refine GivM.of mixed c24 (Nat.le_of_ble_eq_true rfl) rfl rfl ?_
  simp -dsimp -implicitDefEqProofs (disch := first | omega | (simp only [List.length_append, List.length_cons, List.length_nil, List.length_take, List.length_drop]; omega)) only [a24, ↓aPre, aPost, oneW, allOne, retV, retVA, simprocAttr]
  refine call_giv (fits_giv w hw) ?_
  simp -dsimp -implicitDefEqProofs (disch := first | omega | (simp only [List.length_append, List.length_cons, List.length_nil, List.length_take, List.length_drop]; omega)) only [↓aPre, aPost, oneW, allOne, retV, retVA, simprocAttr]
  refine loop_gh (Gh.ice (t := 8) (n := 20) (es := 1) (off := 0) (len := 0) (L := []) (by simp -dsimp -implicitDefEqProofs (disch := first | omega | (simp only [List.length_append, List.length_cons, List.length_nil, List.length_take, List.length_drop]; omega)) only [↓aPre, aPost, oneW, allOne, retV, retVA, simprocAttr]) (by simp -dsimp -implicitDefEqProofs (disch := first | omega | (simp only [List.length_append, List.length_cons, List.length_nil, List.length_take, List.length_drop]; omega)) only [↓aPre, aPost, oneW, allOne, retV, retVA, simprocAttr]) (by decide) (by decide)) (fun s => ∃ (k q : Nat), k ≤ row.length ∧ At (bt l) q (rowS (L.drop k) k) ∧ q + (rowS (L.drop k) k).length = T ∧ s.tm 0 = .ptr 2000000 0 ∧ s.tm 2 = .d (.c (.int .i64 w)) ∧ s.tm 8 = .d (.lst 1 (li .i64 (row.take k))) ∧ s.tm 9 = .d (.c (.int .i64 (wasK (row ++ [w]) k))) ∧ s.tm 10 = .d (.c (.bool (decide (k % 2 = 1)))) ∧ s.tm 1 = .d (.ref C) ∧ s.hp 2000000 = some (.box [.sl 1000000 1 0 l.length, .d (.c (.int .i64 (q : Nat))), .d (.c (.bool false))]) ∧ s.hp 1000000 = some (.row 1 (li .u8 l))) (fun s => 1000000 - (bxN (s.hp 2000000) 1).toNat) ?_ ?_
  · refine ⟨0, p, Nat.zero_le _, by rw [List.drop_zero]; exact hA, by rw [List.drop_zero, hT], ?_⟩
    simp -dsimp -implicitDefEqProofs (disch := first | omega | (simp only [List.length_append, List.length_cons, List.length_nil, List.length_take, List.length_drop]; omega)) only [wasK, li_nil, List.take_zero, ↓aPre, aPost, oneW, allOne, retV, retVA, simprocAttr]
  rintro s ⟨k, q, hk, hA, hq, hs⟩
  obtain ⟨hy0, hyz⟩ := was_gw hR (by omega) hk
  have hgl := gw_le hR k
  have hx0 := hLg k hk
  rw [drop_at (by omega), rowS] at hA hq
  obtain ⟨x, hx⟩ : ∃ x : Nat, L.getD k 0 = (x : Int) := ⟨(L.getD k 0).toNat, by omega⟩
  rw [hx] at hA hq hx0
  obtain ⟨A1, A2⟩ := hA.app
  rw [List.length_append] at hq
  obtain ⟨y, hy⟩ : ∃ y, y = wasK (row ++ [w]) k := ⟨_, rfl⟩
  rw [← hy] at hs hy0 hyz hx0
  have hc := hrd q x (decide (k % 2 = 1)) (w - y) (by omega) (by omega) A1 (by omega)
  have hu0 := lB_ne (decide (k % 2 = 1)) x
  obtain ⟨u, hu⟩ : ∃ u, u = (lB (decide (k % 2 = 1)) x).length := ⟨_, rfl⟩
  rw [← hu] at hc hq A2 hu0
  obtain ⟨z, hz⟩ : ∃ z, z = gw row w k := ⟨_, rfl⟩
  rw [← hz] at hyz hgl hx0
  have hsum : y + (x : Int) = z := by omega
  have hav : (bxN (s.hp 2000000) 1).toNat = q := by
    rw [hs.2.2.2.2.2.2.1]
    rfl
  have hq8 : q + u ≤ 800000 := by omega
  have hwas : wasK (row ++ [w]) (k + 1) = z := by rw [wasK, snoc_gw row w hk, hz]
  by_cases hlt : k < row.length
  · have hzr : z = row.getD k 0 := by rw [hz, gw, if_pos hlt]
    have hzw : ¬ z = w := by
      have := (rw_get hR hlt).2
      omega
    have hlk : (row.take k).length = k := by rw [List.length_take]; omega
    have htg := toggle_giv (row.take k) z (by rw [hlk]; omega)
    rw [hzr, tog_take hR hlt, ← hzr] at htg
    simp -dsimp -implicitDefEqProofs (disch := first | omega | (simp only [List.length_append, List.length_cons, List.length_nil, List.length_take, List.length_drop]; omega)) only [hs, ↓aPre, aPost, oneW, allOne, retV, retVA, simprocAttr]
    refine call_mut hc [] rfl rfl ?_ ?_
    · simp -dsimp -implicitDefEqProofs (disch := first | omega | (simp only [List.length_append, List.length_cons, List.length_nil, List.length_take, List.length_drop]; omega)) only [hs, ↓aPre, aPost, oneW, allOne, retV, retVA, simprocAttr]
    simp -dsimp -implicitDefEqProofs (disch := first | omega | (simp only [List.length_append, List.length_cons, List.length_nil, List.length_take, List.length_drop]; omega)) only [hs, ibne_f, hsum, ibeq_f hzw, ↓aPre, aPost, oneW, allOne, retV, retVA, simprocAttr]
    refine call_giv htg ?_
    simp -dsimp -implicitDefEqProofs (disch := first | omega | (simp only [List.length_append, List.length_cons, List.length_nil, List.length_take, List.length_drop]; omega)) only [hs, par1, ↓aPre, aPost, oneW, allOne, retV, retVA, simprocAttr]
    refine round_of ⟨k + 1, q + u, by omega, A2, by omega, ?_⟩ ?_
    · simp -dsimp -implicitDefEqProofs (disch := first | omega | (simp only [List.length_append, List.length_cons, List.length_nil, List.length_take, List.length_drop]; omega)) only [hs, hwas, ↓aPre, aPost, oneW, allOne, retV, retVA, simprocAttr]
    · simp -dsimp -implicitDefEqProofs (disch := first | omega | (simp only [List.length_append, List.length_cons, List.length_nil, List.length_take, List.length_drop]; omega)) only [hs, bxN_b, ↓aPre, aPost, oneW, allOne, retV, retVA, simprocAttr]
      omega
  · obtain rfl : k = row.length := by omega
    have hzw : z = w := by rw [hz, gw, if_neg hlt]
    rw [List.drop_eq_nil_of_le (by omega), rowS, List.length_nil, Nat.add_zero] at hq
    subst hq
    simp -dsimp -implicitDefEqProofs (disch := first | omega | (simp only [List.length_append, List.length_cons, List.length_nil, List.length_take, List.length_drop]; omega)) only [hs, ↓aPre, aPost, oneW, allOne, retV, retVA, simprocAttr]
    refine call_mut hc [] rfl rfl ?_ ?_
    · simp -dsimp -implicitDefEqProofs (disch := first | omega | (simp only [List.length_append, List.length_cons, List.length_nil, List.length_take, List.length_drop]; omega)) only [hs, ↓aPre, aPost, oneW, allOne, retV, retVA, simprocAttr]
    simp -dsimp -implicitDefEqProofs (disch := first | omega | (simp only [List.length_append, List.length_cons, List.length_nil, List.length_take, List.length_drop]; omega)) only [hs, ibne_f, hsum, ibeq_t hzw, List.take_length, ↓aPre, aPost, oneW, allOne, retV, retVA, simprocAttr]
    refine end_of rfl ?_
    simp -dsimp -implicitDefEqProofs (disch := first | omega | (simp only [List.length_append, List.length_cons, List.length_nil, List.length_take, List.length_drop]; omega)) only [hs, ↓aPre, aPost, oneW, allOne, retV, retVA, simprocAttr]
end Go.Proofs.YtihgplkfikpgbaaDoor
namespace Go.Proofs.YtihgplkfikpgbaaDoor
open Go.Eng Go.RowKit
def a21 : AFn := ⟨112, (.seq (.ops [⟨(.some 10), (.mov (.const (.int .i64 0))), .none⟩]) (.seq (.seq (.ops [⟨(.some 19), (.mov (.tmp 0)), .none⟩, ⟨(.some 20), (.isNilP false (.tmp 19)), .none⟩, ⟨(.some 21), (.mov (.tmp 20)), .none⟩, ⟨(.some 22), (.mov (.tmp 1)), (.some (21, false))⟩, ⟨(.some 23), (.isNilP false (.tmp 22)), (.some (21, false))⟩, ⟨(.some 24), (.pick (.tmp 21) (.const (.bool true)) (.tmp 23)), .none⟩, ⟨(.some 25), (.mov (.tmp 24)), .none⟩, ⟨(.some 26), (.mov (.tmp 4)), (.some (25, false))⟩, ⟨(.some 27), (.call 27 16 [(.tmp 26)]), (.some (25, false))⟩, ⟨(.some 28), (.un .not (.tmp 27)), (.some (25, false))⟩, ⟨(.some 29), (.pick (.tmp 25) (.const (.bool true)) (.tmp 28)), .none⟩, ⟨(.some 30), (.mov (.tmp 29)), .none⟩, ⟨(.some 31), (.mov (.tmp 2)), (.some (30, false))⟩, ⟨(.some 32), (.mov (.tmp 4)), (.some (30, false))⟩, ⟨(.some 33), (.call 33 40 [(.tmp 31), (.tmp 32)]), (.some (30, false))⟩, ⟨(.some 34), (.un .not (.tmp 33)), (.some (30, false))⟩, ⟨(.some 35), (.pick (.tmp 30) (.const (.bool true)) (.tmp 34)), .none⟩, ⟨(.some 36), (.mov (.tmp 35)), .none⟩, ⟨(.some 37), (.mov (.tmp 3)), (.some (36, false))⟩, ⟨(.some 38), (.mov (.tmp 4)), (.some (36, false))⟩, ⟨(.some 39), (.call 39 40 [(.tmp 37), (.tmp 38)]), (.some (36, false))⟩, ⟨(.some 40), (.un .not (.tmp 39)), (.some (36, false))⟩, ⟨(.some 41), (.pick (.tmp 36) (.const (.bool true)) (.tmp 40)), .none⟩]) (.cond (.tmp 41) (.seq (.ops [⟨(.some 10), (.mov (.const (.int .i64 1))), .none⟩]) .ret) .skip)) (.seq (.ops [⟨(.some 11), (.mov (.const (.bool false))), .none⟩]) (.seq (.seq (.ops [⟨(.some 12), (.mov (.const (.int .i64 (-1)))), .none⟩]) (.block 0 (.loop (.seq (.seq (.ops [⟨(.some 42), (.mov (.tmp 12)), .none⟩, ⟨(.some 43), (.mov (.tmp 4)), .none⟩, ⟨(.some 44), (.bin .lss (.tmp 42) (.tmp 43)), .none⟩]) (.cond (.tmp 44) .skip (.exit 0))) (.block 1 (.seq (.ops [⟨(.some 46), (.mov (.tmp 2)), .none⟩, ⟨(.some 47), (.mov (.tmp 12)), .none⟩, ⟨(.some 48), (.mov (.tmp 11)), .none⟩, ⟨(.some 49), (.un .not (.tmp 48)), .none⟩, ⟨(.some 50), (.mov (.tmp 4)), .none⟩, ⟨(.some 51), (.call 51 41 [(.tmp 46), (.tmp 47), (.tmp 49), (.tmp 50)]), .none⟩, ⟨(.some 45), (.mov (.tmp 51)), .none⟩, ⟨(.some 52), (.ext (.tmp 45) 0), .none⟩, ⟨(.some 53), (.ext (.tmp 45) 1), .none⟩, ⟨(.some 13), (.mov (.tmp 52)), .none⟩, ⟨(.some 14), (.mov (.tmp 53)), .none⟩]) (.seq (.ops [⟨(.some 55), (.mov (.tmp 3)), .none⟩, ⟨(.some 56), (.mov (.tmp 12)), .none⟩, ⟨(.some 57), (.mov (.tmp 11)), .none⟩, ⟨(.some 58), (.un .not (.tmp 57)), .none⟩, ⟨(.some 59), (.mov (.tmp 4)), .none⟩, ⟨(.some 60), (.call 60 41 [(.tmp 55), (.tmp 56), (.tmp 58), (.tmp 59)]), .none⟩, ⟨(.some 54), (.mov (.tmp 60)), .none⟩, ⟨(.some 61), (.ext (.tmp 54) 0), .none⟩, ⟨(.some 62), (.ext (.tmp 54) 1), .none⟩, ⟨(.some 15), (.mov (.tmp 61)), .none⟩, ⟨(.some 16), (.mov (.tmp 62)), .none⟩]) (.seq (.ops [⟨(.some 63), (.mov (.tmp 13)), .none⟩, ⟨(.some 64), (.mov (.tmp 15)), .none⟩, ⟨(.some 65), (.bin .sub (.tmp 63) (.tmp 64)), .none⟩, ⟨(.some 17), (.mov (.tmp 65)), .none⟩]) (.seq (.ops [⟨(.some 18), (.mov (.const (.int .i64 0))), .none⟩]) (.seq (.block 2 (.seq (.ops [⟨(.some 88), (.mov (.tmp 16)), .none⟩, ⟨(.some 89), (.mov (.tmp 13)), .none⟩, ⟨(.some 90), (.bin .lss (.tmp 88) (.tmp 89)), .none⟩, ⟨(.some 87), (.mov (.tmp 90)), .none⟩]) (.cond (.tmp 87) (.seq (.ops [⟨(.some 91), (.mov (.tmp 1)), .none⟩, ⟨(.some 92), (.mov (.tmp 0)), .none⟩, ⟨(.some 93), (.callm 42 [(.tmp 91), (.tmp 92), (.const (.int .i64 5))]), .none⟩, ⟨(.some 18), (.mov (.tmp 93)), .none⟩]) (.ops [⟨(.some 94), (.mov (.tmp 16)), .none⟩, ⟨(.some 12), (.mov (.tmp 94)), .none⟩])) (.seq (.ops [⟨(.some 96), (.mov (.tmp 17)), .none⟩, ⟨(.some 97), (.bin .geq (.tmp 96) (.const (.int .i64 (-3)))), .none⟩, ⟨(.some 98), (.mov (.tmp 97)), .none⟩, ⟨(.some 99), (.mov (.tmp 17)), (.some (98, true))⟩, ⟨(.some 100), (.bin .leq (.tmp 99) (.const (.int .i64 3))), (.some (98, true))⟩, ⟨(.some 101), (.pick (.tmp 98) (.tmp 100) (.const (.bool false))), .none⟩, ⟨(.some 95), (.mov (.tmp 101)), .none⟩]) (.cond (.tmp 95) (.seq (.ops [⟨(.some 102), (.mov (.tmp 1)), .none⟩, ⟨(.some 103), (.mov (.tmp 0)), .none⟩, ⟨(.some 104), (.mov (.tmp 17)), .none⟩, ⟨(.some 105), (.callm 42 [(.tmp 102), (.tmp 103), (.tmp 104)]), .none⟩, ⟨(.some 18), (.mov (.tmp 105)), .none⟩]) (.ops [⟨(.some 106), (.mov (.tmp 13)), .none⟩, ⟨(.some 107), (.mov (.tmp 11)), .none⟩, ⟨(.some 108), (.un .not (.tmp 107)), .none⟩, ⟨(.some 12), (.mov (.tmp 106)), .none⟩, ⟨(.some 11), (.mov (.tmp 108)), .none⟩])) (.seq (.ops [⟨(.some 66), (.mov (.tmp 1)), .none⟩, ⟨(.some 67), (.mov (.tmp 0)), .none⟩, ⟨(.some 68), (.callm 42 [(.tmp 66), (.tmp 67), (.const (.int .i64 4))]), .none⟩, ⟨(.some 69), (.mov (.tmp 1)), .none⟩, ⟨(.some 70), (.mov (.tmp 0)), .none⟩, ⟨(.some 71), (.mov (.tmp 13)), .none⟩, ⟨(.some 72), (.mov (.tmp 12)), .none⟩, ⟨(.some 73), (.mm true (.tmp 72) [(.const (.int .i64 0))]), .none⟩, ⟨(.some 74), (.bin .sub (.tmp 71) (.tmp 73)), .none⟩, ⟨(.some 75), (.mov (.tmp 11)), .none⟩, ⟨(.some 76), (.callm 36 [(.tmp 69), (.tmp 70), (.tmp 74), (.tmp 75)]), .none⟩, ⟨(.some 77), (.mov (.tmp 1)), .none⟩, ⟨(.some 78), (.mov (.tmp 0)), .none⟩, ⟨(.some 79), (.mov (.tmp 14)), .none⟩, ⟨(.some 80), (.mov (.tmp 13)), .none⟩, ⟨(.some 81), (.bin .sub (.tmp 79) (.tmp 80)), .none⟩, ⟨(.some 82), (.mov (.tmp 11)), .none⟩, ⟨(.some 83), (.un .not (.tmp 82)), .none⟩, ⟨(.some 84), (.callm 36 [(.tmp 77), (.tmp 78), (.tmp 81), (.tmp 83)]), .none⟩, ⟨(.some 85), (.mm true (.tmp 68) [(.tmp 76), (.tmp 84)]), .none⟩, ⟨(.some 18), (.mov (.tmp 85)), .none⟩]) (.ops [⟨(.some 86), (.mov (.tmp 14)), .none⟩, ⟨(.some 12), (.mov (.tmp 86)), .none⟩]))))))) (.seq (.ops [⟨(.some 109), (.mov (.tmp 18)), .none⟩, ⟨(.some 110), (.bin .neq (.tmp 109) (.const (.int .i64 0))), .none⟩]) (.cond (.tmp 110) (.seq (.ops [⟨(.some 111), (.mov (.tmp 18)), .none⟩, ⟨(.some 10), (.mov (.tmp 111)), .none⟩]) .ret) .skip)))))))))))) (.seq (.ops [⟨(.some 10), (.mov (.const (.int .i64 0))), .none⟩]) .ret))))), [(10, .none)]⟩
theorem c21 : cmpF Tryd.prog [3000036, 3000042] [] 21 = some a21 := by kernel_rfl
theorem ag_step {mW : Int → List Int} {lB : Bool → Int → List Int} {row above : List Int} {w at_ : Int} {j k : Nat} (hlt : at_ < w) {a1 a2 b1 b2 : Int} (h1 : a1 = gw row w j) (h2 : a2 = gw row w (j + 1)) (h3 : b1 = (nxt w at_ (decide (j % 2 = 0)) above 0).1) (h4 : b2 = (nxt w at_ (decide (j % 2 = 0)) above 0).2) :
    ag mW lB row above w (k + 1) at_ j = if b2 < a1 then mW 5 ++ ag mW lB row above w k b2 j else if -3 ≤ a1 - b1 ∧ a1 - b1 ≤ 3 then mW (a1 - b1) ++ ag mW lB row above w k a1 (j + 1) else mW 4 ++ (lB (decide (j % 2 = 1)) (a1 - max at_ 0) ++ (lB (decide (j % 2 = 0)) (a2 - a1) ++ ag mW lB row above w k a2 (j + 2))) := by
  subst h1 h2 h3 h4
  rw [ag, if_neg (by omega)]
theorem nx_giv {l : List Int} {fr w b1 b2 : Int} {bl : Bool} (hl : l.length ≤ 300) (h1 : b1 = (nxt w fr bl l 0).1) (h2 : b2 = (nxt w fr bl l 0).2) : Giv Tryd.prog 41 [.lst 1 (li .i64 l), .c (.int .i64 fr), .c (.bool bl), .c (.int .i64 w)] (retV [.c (.int .i64 b1), .c (.int .i64 b2)]) := by
  have := next_giv l fr bl w (by omega)
  rwa [nextD, ← h1, ← h2] at this
theorem wag_m (f : Nat → Int) (hf : Bit f) (n : Nat) (row above : List Int) (w : Int) (hw : 1 ≤ w ∧ w ≤ 300) (hr : row.length ≤ 300) (hR : rightW w row (-1) = true) (hb : above.length ≤ 300) (hB : rightW w above (-1) = true) (hA : At f n (agR w row above)) (hn : n < 800000) :
    GivM Tryd.prog 21 [.ptr 2000000 0, .d coD, .d (.lst 1 (li .i64 row)), .d (.lst 1 (li .i64 above)), .d (.c (.int .i64 w))] [(2000000, .box [.sl 1000000 1 0 (pk f n).length, .d (.c (.int .i64 (n : Nat))), .d (.c (.bool false))]), (1000000, .row 1 (li .u8 (pk f n)))] (.d (.c (.int .i64 0))) [(2000000, .box [.sl 1000000 1 0 (pk f (n + (agR w row above).length)).length, .d (.c (.int .i64 ((n + (agR w row above).length) : Nat))), .d (.c (.bool false))]), (1000000, .row 1 (li .u8 (pk f (n + (agR w row above).length))))] := by
  have hlen := agR_le w row above
  obtain ⟨T, hT⟩ : ∃ T, T = n + (agR w row above).length := ⟨_, rfl⟩
  rw [← hT]
  obtain ⟨C, hC⟩ : ∃ C : List D, coD = .ref C := ⟨_, rfl⟩
  have hwl : ∀ (m k : Nat) (bl : Bool), k ≤ 400 → At f m (lB bl k) → m < 900000 → GivM Tryd.prog 36 [.d (.ref C), .ptr 2000000 0, .d (.c (.int .i64 k)), .d (.c (.bool bl))] [(2000000, .box [.sl 1000000 1 0 (pk f m).length, .d (.c (.int .i64 (m : Nat))), .d (.c (.bool false))]), (1000000, .row 1 (li .u8 (pk f m)))] (.d (.c (.int .i64 0))) [(2000000, .box [.sl 1000000 1 0 (pk f (m + (lB bl k).length)).length, .d (.c (.int .i64 ((m + (lB bl k).length) : Nat))), .d (.c (.bool false))]), (1000000, .row 1 (li .u8 (pk f (m + (lB bl k).length))))] := fun m k bl h1 h2 h3 => by
    have := wlen_m f hf m k bl (by omega) h2 h3
    rwa [hC] at this
  have hwm : ∀ (m : Nat) (d : Int), -3 ≤ d ∧ d ≤ 5 → At f m (mW d) → m < 900000 → GivM Tryd.prog 42 [.d (.ref C), .ptr 2000000 0, .d (.c (.int .i64 d))] [(2000000, .box [.sl 1000000 1 0 (pk f m).length, .d (.c (.int .i64 (m : Nat))), .d (.c (.bool false))]), (1000000, .row 1 (li .u8 (pk f m)))] (.d (.c (.int .i64 0))) [(2000000, .box [.sl 1000000 1 0 (pk f (m + (mW d).length)).length, .d (.c (.int .i64 ((m + (mW d).length) : Nat))), .d (.c (.bool false))]), (1000000, .row 1 (li .u8 (pk f (m + (mW d).length))))] := fun m d h1 h2 h3 => by
    have := wmode_m f hf m d h1 h2 h3
    rwa [hC] at this
  have hr1 := right_giv row w (by omega)
  have hr2 := right_giv above w (by omega)
  rw [hR] at hr1
  rw [hB] at hr2
  rw [hC]
  refine GivM.of mixed c21 (Nat.le_of_ble_eq_true rfl) rfl rfl ?_
  simp -dsimp -implicitDefEqProofs (disch := first | omega | (simp only [List.length_append, List.length_cons, List.length_nil, List.length_take, List.length_drop]; omega)) only [a21, ↓aPre, aPost, oneW, allOne, retV, retVA, simprocAttr]
  refine call_giv (fits_giv w hw) ?_
  simp -dsimp -implicitDefEqProofs (disch := first | omega | (simp only [List.length_append, List.length_cons, List.length_nil, List.length_take, List.length_drop]; omega)) only [↓aPre, aPost, oneW, allOne, retV, retVA, simprocAttr]
  refine call_giv hr1 ?_
  simp -dsimp -implicitDefEqProofs (disch := first | omega | (simp only [List.length_append, List.length_cons, List.length_nil, List.length_take, List.length_drop]; omega)) only [↓aPre, aPost, oneW, allOne, retV, retVA, simprocAttr]
  refine call_giv hr2 ?_
  simp -dsimp -implicitDefEqProofs (disch := first | omega | (simp only [List.length_append, List.length_cons, List.length_nil, List.length_take, List.length_drop]; omega)) only [↓aPre, aPost, oneW, allOne, retV, retVA, simprocAttr]
  refine loop_of (fun s => ∃ (k j m : Nat) (y : Int), Stt row w y j ∧ w ≤ y + k ∧ At f m (ag mW lB row above w k y j) ∧ m + (ag mW lB row above w k y j).length = T ∧ s.tm 0 = .ptr 2000000 0 ∧ s.tm 2 = .d (.lst 1 (li .i64 row)) ∧ s.tm 3 = .d (.lst 1 (li .i64 above)) ∧ s.tm 4 = .d (.c (.int .i64 w)) ∧ s.tm 11 = .d (.c (.bool (decide (j % 2 = 1)))) ∧ s.tm 12 = .d (.c (.int .i64 y)) ∧ s.tm 1 = .d (.ref C) ∧ s.hp 2000000 = some (.box [.sl 1000000 1 0 (pk f m).length, .d (.c (.int .i64 (m : Nat))), .d (.c (.bool false))]) ∧ s.hp 1000000 = some (.row 1 (li .u8 (pk f m)))) (fun s => (400 - avN (s.tm 12)).toNat) ?_ ?_
  · refine ⟨w.toNat + 1, 0, n, -1, stt_0 hR hw.1, by omega, hA, hT.symm, ?_⟩
    simp -dsimp -implicitDefEqProofs (disch := first | omega | (simp only [List.length_append, List.length_cons, List.length_nil, List.length_take, List.length_drop]; omega)) only [↓aPre, aPost, oneW, allOne, retV, retVA, simprocAttr]
  rintro s ⟨k, j, m, y, hSt, hk, hA, hm, hs⟩
  have hy1 := hSt.1
  by_cases hlt : y < w
  · have hnx := stt_nxt hSt hlt
    obtain ⟨k, rfl⟩ : ∃ k', k = k' + 1 := ⟨k - 1, by omega⟩
    obtain ⟨a1, h1⟩ : ∃ a1, a1 = gw row w j := ⟨_, rfl⟩
    obtain ⟨a2, h2⟩ : ∃ a2, a2 = gw row w (j + 1) := ⟨_, rfl⟩
    obtain ⟨b1, h3⟩ : ∃ b1, b1 = (nxt w y (decide (j % 2 = 0)) above 0).1 := ⟨_, rfl⟩
    obtain ⟨b2, h4⟩ : ∃ b2, b2 = (nxt w y (decide (j % 2 = 0)) above 0).2 := ⟨_, rfl⟩
    have hg1 := nx_giv (l := row) (fr := y) (w := w) (bl := decide (j % 2 = 0)) hr (b1 := a1) (b2 := a2) (by rw [hnx, h1]) (by rw [hnx, h2])
    have hg2 := nx_giv (l := above) (fr := y) (w := w) (bl := decide (j % 2 = 0)) hb h3 h4
    have hbb := nxt_b (bl := decide (j % 2 = 0)) hlt hB (i := 0)
    rw [← h3, ← h4] at hbb
    have hga := stt_gw hSt hlt
    have hgl := gw_le hR j
    have hgl2 := gw_le hR (j + 1)
    have hgg := gw_lt hR j
    have hg0 := gw_ge hR (by omega) j
    rw [ag_step hlt h1 h2 h3 h4] at hA hm
    by_cases c1 : b2 < a1
    · rw [if_pos c1] at hA hm
      obtain ⟨A1, A2⟩ := hA.app
      rw [List.length_append] at hm
      have hc := hwm m 5 (by omega) A1 (by omega)
      have hS2 := stt_pass hR hSt hlt (x := b2) (by omega) (by omega)
      simp -dsimp -implicitDefEqProofs (disch := first | omega | (simp only [List.length_append, List.length_cons, List.length_nil, List.length_take, List.length_drop]; omega)) only [hs, par2, ↓aPre, aPost, oneW, allOne, retV, retVA, simprocAttr]
      refine call_giv hg1 ?_
      simp -dsimp -implicitDefEqProofs (disch := first | omega | (simp only [List.length_append, List.length_cons, List.length_nil, List.length_take, List.length_drop]; omega)) only [hs, par2, ↓aPre, aPost, oneW, allOne, retV, retVA, simprocAttr]
      refine call_giv hg2 ?_
      simp -dsimp -implicitDefEqProofs (disch := first | omega | (simp only [List.length_append, List.length_cons, List.length_nil, List.length_take, List.length_drop]; omega)) only [hs, ↓aPre, aPost, oneW, allOne, retV, retVA, simprocAttr]
      refine call_mut hc [] rfl rfl ?_ ?_
      · simp -dsimp -implicitDefEqProofs (disch := first | omega | (simp only [List.length_append, List.length_cons, List.length_nil, List.length_take, List.length_drop]; omega)) only [hs, ↓aPre, aPost, oneW, allOne, retV, retVA, simprocAttr]
      simp -dsimp -implicitDefEqProofs (disch := first | omega | (simp only [List.length_append, List.length_cons, List.length_nil, List.length_take, List.length_drop]; omega)) only [hs, ibne_f, ↓aPre, aPost, oneW, allOne, retV, retVA, simprocAttr]
      refine round_of ⟨k, j, m + (mW 5).length, b2, hS2, by omega, A2, by omega, ?_⟩ ?_
      · simp -dsimp -implicitDefEqProofs (disch := first | omega | (simp only [List.length_append, List.length_cons, List.length_nil, List.length_take, List.length_drop]; omega)) only [hs, ↓aPre, aPost, oneW, allOne, retV, retVA, simprocAttr]
      · simp -dsimp -implicitDefEqProofs (disch := first | omega | (simp only [List.length_append, List.length_cons, List.length_nil, List.length_take, List.length_drop]; omega)) only [hs, ↓aPre, aPost, oneW, allOne, retV, retVA, simprocAttr]
        omega
    rw [if_neg c1] at hA hm
    by_cases c2 : -3 ≤ a1 - b1 ∧ a1 - b1 ≤ 3
    · rw [if_pos c2] at hA hm
      obtain ⟨A1, A2⟩ := hA.app
      rw [List.length_append] at hm
      obtain ⟨d, hd⟩ : ∃ d, d = a1 - b1 := ⟨_, rfl⟩
      rw [← hd] at A1 A2 hm c2
      have hc := hwm m d (by omega) A1 (by omega)
      have hd' : a1 - b1 = d := hd.symm
      have d1 : d ≥ -3 := c2.1
      have d2 : d ≤ 3 := c2.2
      have hS2 := stt_one hR hSt hlt
      rw [← h1] at hS2
      simp -dsimp -implicitDefEqProofs (disch := first | omega | (simp only [List.length_append, List.length_cons, List.length_nil, List.length_take, List.length_drop]; omega)) only [hs, par2, ↓aPre, aPost, oneW, allOne, retV, retVA, simprocAttr]
      refine call_giv hg1 ?_
      simp -dsimp -implicitDefEqProofs (disch := first | omega | (simp only [List.length_append, List.length_cons, List.length_nil, List.length_take, List.length_drop]; omega)) only [hs, par2, ↓aPre, aPost, oneW, allOne, retV, retVA, simprocAttr]
      refine call_giv hg2 ?_
      simp -dsimp -implicitDefEqProofs (disch := first | omega | (simp only [List.length_append, List.length_cons, List.length_nil, List.length_take, List.length_drop]; omega)) only [hs, hd', d1, d2, ↓aPre, aPost, oneW, allOne, retV, retVA, simprocAttr]
      refine call_mut hc [] rfl rfl ?_ ?_
      · simp -dsimp -implicitDefEqProofs (disch := first | omega | (simp only [List.length_append, List.length_cons, List.length_nil, List.length_take, List.length_drop]; omega)) only [hs, ↓aPre, aPost, oneW, allOne, retV, retVA, simprocAttr]
      simp -dsimp -implicitDefEqProofs (disch := first | omega | (simp only [List.length_append, List.length_cons, List.length_nil, List.length_take, List.length_drop]; omega)) only [hs, ibne_f, par1, ↓aPre, aPost, oneW, allOne, retV, retVA, simprocAttr]
      refine round_of ⟨k, j + 1, m + (mW d).length, a1, hS2, by omega, A2, by omega, ?_⟩ ?_
      · simp -dsimp -implicitDefEqProofs (disch := first | omega | (simp only [List.length_append, List.length_cons, List.length_nil, List.length_take, List.length_drop]; omega)) only [hs, ↓aPre, aPost, oneW, allOne, retV, retVA, simprocAttr]
      · simp -dsimp -implicitDefEqProofs (disch := first | omega | (simp only [List.length_append, List.length_cons, List.length_nil, List.length_take, List.length_drop]; omega)) only [hs, ↓aPre, aPost, oneW, allOne, retV, retVA, simprocAttr]
        omega
    rw [if_neg c2] at hA hm
    obtain ⟨A1, A2⟩ := hA.app
    obtain ⟨A2, A3⟩ := A2.app
    obtain ⟨A3, A4⟩ := A3.app
    rw [List.length_append, List.length_append, List.length_append] at hm
    obtain ⟨x, hx⟩ : ∃ x : Nat, a1 - max y 0 = (x : Int) := ⟨(a1 - max y 0).toNat, by omega⟩
    obtain ⟨z, hz⟩ : ∃ z : Nat, a2 - a1 = (z : Int) := ⟨(a2 - a1).toNat, by omega⟩
    rw [hx] at A2 A3 A4 hm
    rw [hz] at A3 A4 hm
    have hmx : (if 0 > y then 0 else y) = max y 0 := by split <;> omega
    have hc1 := hwm m 4 (by omega) A1 (by omega)
    have hc2 := hwl _ x (decide (j % 2 = 1)) (by omega) A2 (by omega)
    have hc3 := hwl _ z (decide (j % 2 = 0)) (by omega) A3 (by omega)
    have hS2 := stt_two hR hSt hlt
    rw [← h2] at hS2
    have hle : a1 ≤ a2 := by omega
    obtain ⟨d, hd⟩ : ∃ d, d = a1 - b1 := ⟨_, rfl⟩
    rw [← hd] at c2
    have hd' : a1 - b1 = d := hd.symm
    have hpar : decide (j % 2 = 1) = decide ((j + 2) % 2 = 1) := by simp only [decide_eq_decide]; omega
    by_cases c3 : d ≥ -3
    · have c4 : ¬ d ≤ 3 := by omega
      simp -dsimp -implicitDefEqProofs (disch := first | omega | (simp only [List.length_append, List.length_cons, List.length_nil, List.length_take, List.length_drop]; omega)) only [hs, par2, ↓aPre, aPost, oneW, allOne, retV, retVA, simprocAttr]
      refine call_giv hg1 ?_
      simp -dsimp -implicitDefEqProofs (disch := first | omega | (simp only [List.length_append, List.length_cons, List.length_nil, List.length_take, List.length_drop]; omega)) only [hs, par2, ↓aPre, aPost, oneW, allOne, retV, retVA, simprocAttr]
      refine call_giv hg2 ?_
      simp -dsimp -implicitDefEqProofs (disch := first | omega | (simp only [List.length_append, List.length_cons, List.length_nil, List.length_take, List.length_drop]; omega)) only [hs, hd', c3, c4, ↓aPre, aPost, oneW, allOne, retV, retVA, simprocAttr]
      refine call_mut hc1 [] rfl rfl ?_ ?_
      · simp -dsimp -implicitDefEqProofs (disch := first | omega | (simp only [List.length_append, List.length_cons, List.length_nil, List.length_take, List.length_drop]; omega)) only [hs, ↓aPre, aPost, oneW, allOne, retV, retVA, simprocAttr]
      simp -dsimp -implicitDefEqProofs (disch := first | omega | (simp only [List.length_append, List.length_cons, List.length_nil, List.length_take, List.length_drop]; omega)) only [hs, hmx, hx, hz, par2, ↓aPre, aPost, oneW, allOne, retV, retVA, simprocAttr]
      refine call_mut hc2 [] rfl rfl ?_ ?_
      · simp -dsimp -implicitDefEqProofs (disch := first | omega | (simp only [List.length_append, List.length_cons, List.length_nil, List.length_take, List.length_drop]; omega)) only [hs, ↓aPre, aPost, oneW, allOne, retV, retVA, simprocAttr]
      simp -dsimp -implicitDefEqProofs (disch := first | omega | (simp only [List.length_append, List.length_cons, List.length_nil, List.length_take, List.length_drop]; omega)) only [hs, hmx, hx, hz, par2, ↓aPre, aPost, oneW, allOne, retV, retVA, simprocAttr]
      refine call_mut hc3 [] rfl rfl ?_ ?_
      · simp -dsimp -implicitDefEqProofs (disch := first | omega | (simp only [List.length_append, List.length_cons, List.length_nil, List.length_take, List.length_drop]; omega)) only [hs, ↓aPre, aPost, oneW, allOne, retV, retVA, simprocAttr]
      simp -dsimp -implicitDefEqProofs (disch := first | omega | (simp only [List.length_append, List.length_cons, List.length_nil, List.length_take, List.length_drop]; omega)) only [hs, ibne_f, ↓aPre, aPost, oneW, allOne, retV, retVA, simprocAttr]
      refine round_of ⟨k, j + 2, m + (mW 4).length + (lB (decide (j % 2 = 1)) x).length + (lB (decide (j % 2 = 0)) z).length, a2, hS2, by omega, A4, by omega, ?_⟩ ?_
      · simp -dsimp -implicitDefEqProofs (disch := first | omega | (simp only [List.length_append, List.length_cons, List.length_nil, List.length_take, List.length_drop]; omega)) only [hs, hpar, ↓aPre, aPost, oneW, allOne, retV, retVA, simprocAttr]
      · simp -dsimp -implicitDefEqProofs (disch := first | omega | (simp only [List.length_append, List.length_cons, List.length_nil, List.length_take, List.length_drop]; omega)) only [hs, ↓aPre, aPost, oneW, allOne, retV, retVA, simprocAttr]
        omega
    · simp -dsimp -implicitDefEqProofs (disch := first | omega | (simp only [List.length_append, List.length_cons, List.length_nil, List.length_take, List.length_drop]; omega)) only [hs, par2, ↓aPre, aPost, oneW, allOne, retV, retVA, simprocAttr]
      refine call_giv hg1 ?_
      simp -dsimp -implicitDefEqProofs (disch := first | omega | (simp only [List.length_append, List.length_cons, List.length_nil, List.length_take, List.length_drop]; omega)) only [hs, par2, ↓aPre, aPost, oneW, allOne, retV, retVA, simprocAttr]
      refine call_giv hg2 ?_
      simp -dsimp -implicitDefEqProofs (disch := first | omega | (simp only [List.length_append, List.length_cons, List.length_nil, List.length_take, List.length_drop]; omega)) only [hs, hd', c3, ↓aPre, aPost, oneW, allOne, retV, retVA, simprocAttr]
      refine call_mut hc1 [] rfl rfl ?_ ?_
      · simp -dsimp -implicitDefEqProofs (disch := first | omega | (simp only [List.length_append, List.length_cons, List.length_nil, List.length_take, List.length_drop]; omega)) only [hs, ↓aPre, aPost, oneW, allOne, retV, retVA, simprocAttr]
      simp -dsimp -implicitDefEqProofs (disch := first | omega | (simp only [List.length_append, List.length_cons, List.length_nil, List.length_take, List.length_drop]; omega)) only [hs, hmx, hx, hz, par2, ↓aPre, aPost, oneW, allOne, retV, retVA, simprocAttr]
      refine call_mut hc2 [] rfl rfl ?_ ?_
      · simp -dsimp -implicitDefEqProofs (disch := first | omega | (simp only [List.length_append, List.length_cons, List.length_nil, List.length_take, List.length_drop]; omega)) only [hs, ↓aPre, aPost, oneW, allOne, retV, retVA, simprocAttr]
      simp -dsimp -implicitDefEqProofs (disch := first | omega | (simp only [List.length_append, List.length_cons, List.length_nil, List.length_take, List.length_drop]; omega)) only [hs, hmx, hx, hz, par2, ↓aPre, aPost, oneW, allOne, retV, retVA, simprocAttr]
      refine call_mut hc3 [] rfl rfl ?_ ?_
      · simp -dsimp -implicitDefEqProofs (disch := first | omega | (simp only [List.length_append, List.length_cons, List.length_nil, List.length_take, List.length_drop]; omega)) only [hs, ↓aPre, aPost, oneW, allOne, retV, retVA, simprocAttr]
      simp -dsimp -implicitDefEqProofs (disch := first | omega | (simp only [List.length_append, List.length_cons, List.length_nil, List.length_take, List.length_drop]; omega)) only [hs, ibne_f, ↓aPre, aPost, oneW, allOne, retV, retVA, simprocAttr]
      refine round_of ⟨k, j + 2, m + (mW 4).length + (lB (decide (j % 2 = 1)) x).length + (lB (decide (j % 2 = 0)) z).length, a2, hS2, by omega, A4, by omega, ?_⟩ ?_
      · simp -dsimp -implicitDefEqProofs (disch := first | omega | (simp only [List.length_append, List.length_cons, List.length_nil, List.length_take, List.length_drop]; omega)) only [hs, hpar, ↓aPre, aPost, oneW, allOne, retV, retVA, simprocAttr]
      · simp -dsimp -implicitDefEqProofs (disch := first | omega | (simp only [List.length_append, List.length_cons, List.length_nil, List.length_take, List.length_drop]; omega)) only [hs, ↓aPre, aPost, oneW, allOne, retV, retVA, simprocAttr]
        omega
  · have e : y = w := by have := hSt.2.1; omega
    rw [ag_done _ (by omega), List.length_nil, Nat.add_zero] at hm
    subst hm
    simp -dsimp -implicitDefEqProofs (disch := first | omega | (simp only [List.length_append, List.length_cons, List.length_nil, List.length_take, List.length_drop]; omega)) only [hs, ↓aPre, aPost, oneW, allOne, retV, retVA, simprocAttr]
    refine end_of rfl ?_
    simp -dsimp -implicitDefEqProofs (disch := first | omega | (simp only [List.length_append, List.length_cons, List.length_nil, List.length_take, List.length_drop]; omega)) only [hs, ↓aPre, aPost, oneW, allOne, retV, retVA, simprocAttr]
end Go.Proofs.YtihgplkfikpgbaaDoor
