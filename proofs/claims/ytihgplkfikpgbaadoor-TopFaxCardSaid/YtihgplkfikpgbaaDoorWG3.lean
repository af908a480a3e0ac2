/- Pages of either kind of rows, with the ends of lines: written, read. No condition but what each says. Pages of either kind of rows, with the ends of lines: read. No condition but what each says. -/
import Derived.Test.YtihgplkfikpgbaaDoorWMh
set_option linter.unusedSimpArgs false
set_option linter.unusedVariables false
set_option maxRecDepth 8000
set_option maxHeartbeats 4000000
namespace Go.Proofs.YtihgplkfikpgbaaDoor
open Go.Eng Go.RowKit
def a4 : AFn := ⟨11, (.seq (.ops [⟨(.some 1), (.box 1 4 (.tmp 0)), .none⟩, ⟨(.some 2), (.mov (.const (.bool false))), .none⟩]) (.seq (.ops [⟨(.some 3), (.fadr 1 (.tmp 1)), .none⟩, ⟨(.some 4), (.ld (.tmp 3)), .none⟩, ⟨(.some 5), (.bin .geq (.tmp 4) (.const (.int .i64 1))), .none⟩, ⟨(.some 6), (.mov (.tmp 5)), .none⟩, ⟨(.some 7), (.fadr 0 (.tmp 1)), (.some (6, false))⟩, ⟨(.some 8), (.ld (.tmp 7)), (.some (6, false))⟩, ⟨(.some 9), (.un .not (.tmp 8)), (.some (6, false))⟩, ⟨(.some 10), (.pick (.tmp 6) (.const (.bool true)) (.tmp 9)), .none⟩, ⟨(.some 2), (.mov (.tmp 10)), .none⟩]) .ret)), [(2, .none)]⟩
theorem c4 : cmpF Tryd.prog [] [] 4 = some a4 := by kernel_rfl
def a7 : AFn := ⟨81, (.seq (.ops [⟨(.some 5), (.box 5 4 (.tmp 2)), .none⟩, ⟨(.some 6), (.mov (.const (.slice .none 0 0))), .none⟩, ⟨(.some 7), (.mov (.const (.int .i64 0))), .none⟩]) (.seq (.seq (.ops [⟨(.some 15), (.ldn 4 (.tmp 5)), .none⟩, ⟨(.some 16), (.call 16 4 [(.tmp 15)]), .none⟩, ⟨(.some 17), (.un .not (.tmp 16)), .none⟩, ⟨(.some 18), (.mov (.tmp 17)), .none⟩, ⟨(.some 19), (.mov (.tmp 1)), (.some (18, false))⟩, ⟨(.some 20), (.bin .lss (.tmp 19) (.const (.int .i64 1))), (.some (18, false))⟩, ⟨(.some 21), (.pick (.tmp 18) (.const (.bool true)) (.tmp 20)), .none⟩, ⟨(.some 22), (.mov (.tmp 21)), .none⟩, ⟨(.some 23), (.mov (.tmp 1)), (.some (22, false))⟩, ⟨(.some 24), (.bin .gtr (.tmp 23) (.const (.int .i64 32768))), (.some (22, false))⟩, ⟨(.some 25), (.pick (.tmp 22) (.const (.bool true)) (.tmp 24)), .none⟩]) (.cond (.tmp 25) (.seq (.ops [⟨(.some 6), (.mov (.const (.slice .none 0 0))), .none⟩, ⟨(.some 7), (.mov (.const (.int .i64 1))), .none⟩]) .ret) .skip)) (.seq (.ops [⟨(.some 26), (.callm 14 [(.const (.bool false))]), .none⟩, ⟨(.some 27), (.call 27 15 []), .none⟩, ⟨(.some 8), (.mov (.tmp 26)), .none⟩, ⟨(.some 9), (.mov (.tmp 27)), .none⟩]) (.seq (.ops [⟨(.some 28), (.lit0 28 1), .none⟩, ⟨(.some 10), (.mov (.tmp 28)), .none⟩]) (.seq (.seq (.ops [⟨(.some 29), (.mov (.tmp 0)), .none⟩, ⟨(.some 30), (.len (.tmp 29)), .none⟩, ⟨(.some 31), (.mov (.const (.int .i64 0))), .none⟩]) (.block 0 (.loop (.seq (.ops [⟨(.some 32), (.bin .lss (.tmp 31) (.tmp 30)), .none⟩]) (.seq (.cond (.tmp 32) .skip (.exit 0)) (.seq (.block 1 (.seq (.ops [⟨(.some 33), (.mov (.tmp 31)), .none⟩, ⟨(.some 34), (.iadr 1 (.tmp 29) (.tmp 31)), .none⟩, ⟨(.some 35), (.ld (.tmp 34)), .none⟩, ⟨(.some 11), (.mov (.tmp 33)), .none⟩, ⟨(.some 12), (.mov (.tmp 35)), .none⟩]) (.seq (.ops [⟨(.some 36), (.fadr 0 (.tmp 5)), .none⟩, ⟨(.some 37), (.ld (.tmp 36)), .none⟩, ⟨(.some 38), (.un .not (.tmp 37)), .none⟩, ⟨(.some 39), (.mov (.tmp 38)), .none⟩, ⟨(.some 40), (.mov (.tmp 11)), (.some (39, false))⟩, ⟨(.some 41), (.fadr 1 (.tmp 5)), (.some (39, false))⟩, ⟨(.some 42), (.ld (.tmp 41)), (.some (39, false))⟩, ⟨(.some 43), (.bin .rem (.tmp 40) (.tmp 42)), (.some (39, false))⟩, ⟨(.some 44), (.bin .eql (.tmp 43) (.const (.int .i64 0))), (.some (39, false))⟩, ⟨(.some 45), (.pick (.tmp 39) (.const (.bool true)) (.tmp 44)), .none⟩, ⟨(.some 13), (.mov (.tmp 45)), .none⟩]) (.seq (.ops [⟨(.some 46), (.mov (.tmp 8)), .none⟩, ⟨(.some 47), (.ldn 4 (.tmp 5)), .none⟩, ⟨(.some 48), (.mov (.tmp 13)), .none⟩, ⟨(.some 49), (.callm 20 [(.tmp 46), (.tmp 47), (.tmp 48)]), .none⟩]) (.seq (.ops [⟨(.some 14), (.mov (.const (.int .i64 0))), .none⟩]) (.seq (.seq (.ops [⟨(.some 50), (.mov (.tmp 13)), .none⟩]) (.cond (.tmp 50) (.ops [⟨(.some 51), (.mov (.tmp 8)), .none⟩, ⟨(.some 52), (.mov (.tmp 9)), .none⟩, ⟨(.some 53), (.mov (.tmp 12)), .none⟩, ⟨(.some 54), (.mov (.tmp 1)), .none⟩, ⟨(.some 55), (.callm 17 [(.tmp 51), (.tmp 52), (.tmp 53), (.tmp 54)]), .none⟩, ⟨(.some 14), (.mov (.tmp 55)), .none⟩]) (.ops [⟨(.some 56), (.mov (.tmp 8)), .none⟩, ⟨(.some 57), (.mov (.tmp 9)), .none⟩, ⟨(.some 58), (.mov (.tmp 12)), .none⟩, ⟨(.some 59), (.mov (.tmp 10)), .none⟩, ⟨(.some 60), (.mov (.tmp 1)), .none⟩, ⟨(.some 61), (.callm 21 [(.tmp 56), (.tmp 57), (.tmp 58), (.tmp 59), (.tmp 60)]), .none⟩, ⟨(.some 14), (.mov (.tmp 61)), .none⟩]))) (.seq (.seq (.ops [⟨(.some 62), (.mov (.tmp 14)), .none⟩, ⟨(.some 63), (.bin .neq (.tmp 62) (.const (.int .i64 0))), .none⟩]) (.cond (.tmp 63) (.seq (.ops [⟨(.some 64), (.mov (.tmp 14)), .none⟩, ⟨(.some 6), (.mov (.const (.slice .none 0 0))), .none⟩, ⟨(.some 7), (.mov (.tmp 64)), .none⟩]) .ret) .skip)) (.ops [⟨(.some 65), (.mov (.tmp 12)), .none⟩, ⟨(.some 10), (.mov (.tmp 65)), .none⟩])))))))) (.ops [⟨(.some 66), (.bin .add (.tmp 31) (.const (.int .i64 1))), .none⟩, ⟨(.some 31), (.mov (.tmp 66)), .none⟩]))))))) (.seq (.seq (.ops [⟨(.some 67), (.fadr 3 (.tmp 5)), .none⟩, ⟨(.some 68), (.ld (.tmp 67)), .none⟩]) (.cond (.tmp 68) (.seq (.ops [⟨(.some 69), (.mov (.tmp 8)), .none⟩, ⟨(.some 70), (.ldn 4 (.tmp 5)), .none⟩, ⟨(.some 71), (.callm 20 [(.tmp 69), (.tmp 70), (.const (.bool true))]), .none⟩]) (.seq (.ops [⟨(.some 72), (.fadr 2 (.tmp 5)), .none⟩, ⟨.none, (.st 1 (.tmp 72) (.const (.bool false))), .none⟩]) (.seq (.ops [⟨(.some 73), (.mov (.const (.int .i64 0))), .none⟩]) (.block 2 (.loop (.seq (.ops [⟨(.some 74), (.bin .lss (.tmp 73) (.const (.int .i64 5))), .none⟩]) (.seq (.cond (.tmp 74) .skip (.exit 2)) (.seq (.block 3 (.ops [⟨(.some 75), (.mov (.tmp 8)), .none⟩, ⟨(.some 76), (.ldn 4 (.tmp 5)), .none⟩, ⟨(.some 77), (.callm 20 [(.tmp 75), (.tmp 76), (.const (.bool true))]), .none⟩])) (.ops [⟨(.some 78), (.bin .add (.tmp 73) (.const (.int .i64 1))), .none⟩, ⟨(.some 73), (.mov (.tmp 78)), .none⟩]))))))))) .skip)) (.seq (.ops [⟨(.some 79), (.mov (.tmp 8)), .none⟩, ⟨(.some 80), (.callm 19 [(.tmp 79)]), .none⟩, ⟨(.some 6), (.mov (.tmp 80)), .none⟩, ⟨(.some 7), (.mov (.const (.int .i64 0))), .none⟩]) .ret))))))), [(6, .none), (7, .none)]⟩
theorem c7 : cmpF Tryd.prog [3000014, 3000017, 3000019, 3000020, 3000021] [] 7 = some a7 := by kernel_rfl
def a10 : AFn := ⟨80, (.seq (.ops [⟨(.some 8), (.mov (.const (.slice .none 0 0))), .none⟩, ⟨(.some 9), (.mov (.const (.int .i64 0))), .none⟩]) (.seq (.seq (.ops [⟨(.some 20), (.mov (.tmp 1)), .none⟩, ⟨(.some 21), (.bin .lss (.tmp 20) (.const (.int .i64 1))), .none⟩, ⟨(.some 22), (.mov (.tmp 21)), .none⟩, ⟨(.some 23), (.mov (.tmp 1)), (.some (22, false))⟩, ⟨(.some 24), (.bin .gtr (.tmp 23) (.const (.int .i64 32768))), (.some (22, false))⟩, ⟨(.some 25), (.pick (.tmp 22) (.const (.bool true)) (.tmp 24)), .none⟩, ⟨(.some 26), (.mov (.tmp 25)), .none⟩, ⟨(.some 27), (.mov (.tmp 2)), (.some (26, false))⟩, ⟨(.some 28), (.bin .lss (.tmp 27) (.const (.int .i64 0))), (.some (26, false))⟩, ⟨(.some 29), (.pick (.tmp 26) (.const (.bool true)) (.tmp 28)), .none⟩]) (.cond (.tmp 29) (.seq (.ops [⟨(.some 8), (.mov (.const (.slice .none 0 0))), .none⟩, ⟨(.some 9), (.mov (.const (.int .i64 1))), .none⟩]) .ret) .skip)) (.seq (.ops [⟨(.some 30), (.mov (.tmp 0)), .none⟩, ⟨(.some 31), (.callm 23 [(.tmp 30), (.const (.bool false))]), .none⟩, ⟨(.some 32), (.call 32 15 []), .none⟩, ⟨(.some 10), (.mov (.tmp 31)), .none⟩, ⟨(.some 11), (.mov (.tmp 32)), .none⟩]) (.seq (.ops [⟨(.some 33), (.lit0 33 1), .none⟩, ⟨(.some 34), (.lit0 34 1), .none⟩, ⟨(.some 12), (.mov (.tmp 33)), .none⟩, ⟨(.some 13), (.mov (.tmp 34)), .none⟩]) (.seq (.seq (.ops [⟨(.some 35), (.mov (.tmp 2)), .none⟩, ⟨(.some 36), (.mov (.const (.int .i64 0))), .none⟩]) (.block 0 (.loop (.seq (.ops [⟨(.some 37), (.bin .lss (.tmp 36) (.tmp 35)), .none⟩]) (.seq (.cond (.tmp 37) .skip (.exit 0)) (.seq (.block 1 (.seq (.seq (.ops [⟨(.some 38), (.mov (.tmp 10)), .none⟩, ⟨(.some 39), (.callm 26 [(.tmp 38)]), .none⟩, ⟨(.some 14), (.mov (.tmp 39)), .none⟩]) (.seq (.ops [⟨(.some 40), (.mov (.tmp 14)), .none⟩, ⟨(.some 41), (.bin .neq (.tmp 40) (.const (.int .i64 0))), .none⟩]) (.cond (.tmp 41) (.seq (.ops [⟨(.some 42), (.mov (.tmp 14)), .none⟩, ⟨(.some 8), (.mov (.const (.slice .none 0 0))), .none⟩, ⟨(.some 9), (.mov (.tmp 42)), .none⟩]) .ret) .skip))) (.seq (.ops [⟨(.some 15), (.mov (.const (.int .u32 1))), .none⟩]) (.seq (.seq (.ops [⟨(.some 43), (.mov (.tmp 3)), .none⟩]) (.cond (.tmp 43) (.seq (.ops [⟨(.some 45), (.mov (.tmp 10)), .none⟩, ⟨(.some 46), (.callm 27 [(.tmp 45), (.const (.int .i64 1))]), .none⟩, ⟨(.some 44), (.mov (.tmp 46)), .none⟩, ⟨(.some 47), (.ext (.tmp 44) 0), .none⟩, ⟨(.some 48), (.ext (.tmp 44) 1), .none⟩, ⟨(.some 16), (.mov (.tmp 47)), .none⟩, ⟨(.some 17), (.mov (.tmp 48)), .none⟩]) (.seq (.seq (.ops [⟨(.some 49), (.mov (.tmp 17)), .none⟩, ⟨(.some 50), (.bin .neq (.tmp 49) (.const (.int .i64 0))), .none⟩]) (.cond (.tmp 50) (.seq (.ops [⟨(.some 51), (.mov (.tmp 17)), .none⟩, ⟨(.some 8), (.mov (.const (.slice .none 0 0))), .none⟩, ⟨(.some 9), (.mov (.tmp 51)), .none⟩]) .ret) .skip)) (.ops [⟨(.some 52), (.mov (.tmp 16)), .none⟩, ⟨(.some 15), (.mov (.tmp 52)), .none⟩]))) .skip)) (.seq (.ops [⟨(.some 18), (.mov (.const (.slice .none 0 0))), .none⟩]) (.seq (.ops [⟨(.some 19), (.mov (.const (.int .i64 0))), .none⟩]) (.seq (.seq (.ops [⟨(.some 53), (.mov (.tmp 15)), .none⟩, ⟨(.some 54), (.bin .eql (.tmp 53) (.const (.int .u32 1))), .none⟩]) (.cond (.tmp 54) (.ops [⟨(.some 56), (.mov (.tmp 10)), .none⟩, ⟨(.some 57), (.mov (.tmp 11)), .none⟩, ⟨(.some 58), (.mov (.tmp 1)), .none⟩, ⟨(.some 59), (.callm 24 [(.tmp 56), (.tmp 57), (.tmp 58)]), .none⟩, ⟨(.some 55), (.mov (.tmp 59)), .none⟩, ⟨(.some 60), (.ext (.tmp 55) 0), .none⟩, ⟨(.some 61), (.ext (.tmp 55) 1), .none⟩, ⟨(.some 18), (.mov (.tmp 60)), .none⟩, ⟨(.some 19), (.mov (.tmp 61)), .none⟩]) (.ops [⟨(.some 63), (.mov (.tmp 10)), .none⟩, ⟨(.some 64), (.mov (.tmp 11)), .none⟩, ⟨(.some 65), (.mov (.tmp 13)), .none⟩, ⟨(.some 66), (.mov (.tmp 1)), .none⟩, ⟨(.some 67), (.callm 28 [(.tmp 63), (.tmp 64), (.tmp 65), (.tmp 66)]), .none⟩, ⟨(.some 62), (.mov (.tmp 67)), .none⟩, ⟨(.some 68), (.ext (.tmp 62) 0), .none⟩, ⟨(.some 69), (.ext (.tmp 62) 1), .none⟩, ⟨(.some 18), (.mov (.tmp 68)), .none⟩, ⟨(.some 19), (.mov (.tmp 69)), .none⟩]))) (.seq (.seq (.ops [⟨(.some 70), (.mov (.tmp 19)), .none⟩, ⟨(.some 71), (.bin .neq (.tmp 70) (.const (.int .i64 0))), .none⟩]) (.cond (.tmp 71) (.seq (.ops [⟨(.some 72), (.mov (.tmp 19)), .none⟩, ⟨(.some 8), (.mov (.const (.slice .none 0 0))), .none⟩, ⟨(.some 9), (.mov (.tmp 72)), .none⟩]) .ret) .skip)) (.seq (.ops [⟨(.some 73), (.mov (.tmp 12)), .none⟩, ⟨(.some 74), (.mov (.tmp 18)), .none⟩, ⟨(.some 75), (.lit 1 [(.tmp 74)]), .none⟩, ⟨(.some 76), (.app 76 1 24 (.tmp 73) (.tmp 75)), .none⟩, ⟨(.some 12), (.mov (.tmp 76)), .none⟩]) (.ops [⟨(.some 77), (.mov (.tmp 18)), .none⟩, ⟨(.some 13), (.mov (.tmp 77)), .none⟩])))))))))) (.ops [⟨(.some 78), (.bin .add (.tmp 36) (.const (.int .i64 1))), .none⟩, ⟨(.some 36), (.mov (.tmp 78)), .none⟩]))))))) (.seq (.ops [⟨(.some 79), (.mov (.tmp 12)), .none⟩, ⟨(.some 8), (.mov (.tmp 79)), .none⟩, ⟨(.some 9), (.mov (.const (.int .i64 0))), .none⟩]) .ret)))))), [(8, .none), (9, .none)]⟩
theorem c10 : cmpF Tryd.prog [3000023, 3000024, 3000026, 3000027, 3000028] [] 10 = some a10 := by kernel_rfl
def opD (two : Bool) (ev : Int) (al en : Bool) : D := .agg [.c (.bool two), .c (.int .i64 ev), .c (.bool al), .c (.bool en)]
theorem right3_giv (two : Bool) (ev : Int) (al en : Bool) : Giv Tryd.prog 4 [opD two ev al en] (retV [.c (.bool (decide (ev ≥ 1) || !two))]) := by
  unfold opD
  refine Giv.of mixed c4 (Nat.le_of_ble_eq_true rfl) ?_
  by_cases h : ev ≥ 1
  · simp -dsimp -implicitDefEqProofs (disch := first | omega | (simp only [List.length_append, List.length_cons, List.length_nil, List.length_take, List.length_drop]; omega)) only [a4, h, ↓aPre, aPost, oneW, allOne, retV, retVA, simprocAttr]
    exact post_eq rfl
  · simp -dsimp -implicitDefEqProofs (disch := first | omega | (simp only [List.length_append, List.length_cons, List.length_nil, List.length_take, List.length_drop]; omega)) only [a4, h, ↓aPre, aPost, oneW, allOne, retV, retVA, simprocAttr]
    exact post_eq rfl
theorem end_at {f : Nat → Int} {m n : Nat} {al two sg : Bool} (h : At f m (endL al two sg n)) : (∀ i, i < fillN al n + 11 → f (m + i) = 0) ∧ f (m + (fillN al n + 11)) = 1 ∧ (two = true → f (m + (fillN al n + 12)) = if sg then 1 else 0) ∧ (endL al two sg n).length = fillN al n + 12 + (if two then 1 else 0) := by
  obtain ⟨h1, h2⟩ := h.app
  obtain ⟨h3, h4⟩ := h2.app
  rw [List.length_replicate] at h3 h4
  refine ⟨fun i hi => ?_, ?_, fun ht => ?_, ?_⟩
  · by_cases c : i < fillN al n
    · rw [h1 i (by rw [List.length_replicate]; exact c)]
      simp only [List.getD, List.getElem?_replicate, if_pos c, Option.getD_some]
    · have := h3 (i - fillN al n) (by rw [eol_len]; omega)
      rw [show m + fillN al n + (i - fillN al n) = m + i by omega] at this
      rw [this]
      have key : ∀ j : Fin 11, eol.getD j.val 0 = 0 := by decide
      exact key ⟨i - fillN al n, by omega⟩
  · have := h3 11 (by rw [eol_len]; decide)
    rw [Nat.add_assoc] at this
    rw [this]; rfl
  · subst ht
    have := h4 0 (by cases sg <;> decide)
    rw [eol_len] at this
    rw [show m + (fillN al n + 12) = m + fillN al n + 12 + 0 by omega, this]
    cases sg <;> rfl
  · rw [endL, List.length_append, List.length_append, List.length_replicate, eol_len]
    cases two <;> cases sg <;> simp [tagL] <;> omega
/-- how a row of the page is told -/
theorem sgl_f (ev : Int) (i : Nat) : sgl false ev i = true := rfl
theorem sgl_t (ev : Int) (i : Nat) : sgl true ev i = decide ((i : Int) % ev = 0) := rfl
theorem g3enc_giv (rows : List (List Int)) (w : Int) (two : Bool) (ev : Int) (al en : Bool) (hw : 1 ≤ w ∧ w ≤ 300) (hev : two = true → 1 ≤ ev) (hR : Rws w rows) (hl : rows.length ≤ 1000) (hN : (g3S w al two en ev rows 0 [] 0).length < 700000) :
    Giv Tryd.prog 7 [.lst 1 (rsD rows), .c (.int .i64 w), opD two ev al en] (retV [.lst 1 (li .u8 (pk (stream (g3S w al two en ev rows 0 [] 0)) (g3S w al two en ev rows 0 [] 0).length)), .c (.int .i64 0)]) := by
  obtain ⟨N, hNe⟩ : ∃ N, N = (g3S w al two en ev rows 0 [] 0).length := ⟨_, rfl⟩
  have hf : Bit (stream (g3S w al two en ev rows 0 [] 0)) := stream_bit (g3S_bits w al two en ev rows 0 [] 0)
  have hA0 := stream_at (g3S w al two en ev rows 0 [] 0)
  obtain ⟨f, hfe⟩ : ∃ f, f = stream (g3S w al two en ev rows 0 [] 0) := ⟨_, rfl⟩
  rw [← hfe] at hf hA0 ⊢
  rw [← hNe] at hN ⊢
  have hrl := rsD_len rows
  have hwa := fun (n : Nat) (r ab : List Int) (h1 : r.length ≤ 300) (h2 : rightW w r (-1) = true) (h5 : ab.length ≤ 300) (h6 : rightW w ab (-1) = true) (h3 : At f n (agR w r ab)) (h4 : n < 800000) => wag_m f hf n r ab w hw h1 h2 h5 h6 h3 h4
  have hwr := fun (n : Nat) (r : List Int) (h1 : r.length ≤ 300) (h2 : rightW w r (-1) = true) (h3 : At f n (rowS (lens w r) 0)) (h4 : n < 800000) => wrr_m f hf n r w hw h1 h2 h3 h4
  have hen := fun (n : Nat) (al sg : Bool) (h1 : At f n (endL al two sg n)) (h2 : n < 990000) => end_m f hf n two al en sg ev h1 h2
  have hnc := newc_giv
  obtain ⟨C, hC⟩ : ∃ C : List D, coD = .ref C := ⟨_, rfl⟩
  rw [hC] at hwr hwa hnc
  have hby := fun (n : Nat) (h : n < 1000000) => bytes_m f n h
  have hw1 : ¬ w < 1 := by omega
  have hw2 : ¬ w > 32768 := by omega
  have hrt := right3_giv two ev al en
  have hrb : (decide (ev ≥ 1) || !two) = true := by
    cases two
    · simp
    · simp [hev rfl]
  rw [hrb] at hrt
  unfold opD at hrt ⊢
  refine Giv.of mixed c7 (Nat.le_of_ble_eq_true rfl) ?_
  simp -dsimp -implicitDefEqProofs (disch := first | omega | (simp only [List.length_append, List.length_cons, List.length_nil, List.length_take, List.length_drop]; omega)) only [a7, hrl, ↓aPre, aPost, oneW, allOne, retV, retVA, simprocAttr]
  refine call_giv hrt ?_
  simp -dsimp -implicitDefEqProofs (disch := first | omega | (simp only [List.length_append, List.length_cons, List.length_nil, List.length_take, List.length_drop]; omega)) only [hw1, hw2, hrl, ↓aPre, aPost, oneW, allOne, retV, retVA, simprocAttr]
  refine call_mut newwr_m [(5, 500)] rfl rfl ?_ ?_
  · simp -dsimp -implicitDefEqProofs (disch := first | omega | (simp only [List.length_append, List.length_cons, List.length_nil, List.length_take, List.length_drop]; omega)) only [↓aPre, aPost, oneW, allOne, retV, retVA, simprocAttr]
  simp -dsimp -implicitDefEqProofs (disch := first | omega | (simp only [List.length_append, List.length_cons, List.length_nil, List.length_take, List.length_drop]; omega)) only [↓aPre, aPost, oneW, allOne, retV, retVA, simprocAttr]
  refine call_giv hnc ?_
  simp -dsimp -implicitDefEqProofs (disch := first | omega | (simp only [List.length_append, List.length_cons, List.length_nil, List.length_take, List.length_drop]; omega)) only [hrl, ↓aPre, aPost, oneW, allOne, retV, retVA, simprocAttr]
  refine loop_ghB (Gh.ice (t := 10) (n := 28) (es := 1) (off := 0) (len := 0) (L := []) (by simp -dsimp -implicitDefEqProofs (disch := first | omega | (simp only [List.length_append, List.length_cons, List.length_nil, List.length_take, List.length_drop]; omega)) only [↓aPre, aPost, oneW, allOne, retV, retVA, simprocAttr]) (by simp -dsimp -implicitDefEqProofs (disch := first | omega | (simp only [List.length_append, List.length_cons, List.length_nil, List.length_take, List.length_drop]; omega)) only [↓aPre, aPost, oneW, allOne, retV, retVA, simprocAttr]) (by decide) (by decide)) 500 0 600 1 [.d (.c (.slice none 0 0)), .d (.c (.int .i64 0)), .d (.c (.bool false))] (fun s => ∃ (k m : Nat), k ≤ rows.length ∧ At f m (g3S w al two en ev (rows.drop k) k (abK rows k) m) ∧ m + (g3S w al two en ev (rows.drop k) k (abK rows k) m).length = N ∧ s.tm 1 = .d (.c (.int .i64 w)) ∧ s.tm 5 = .ptr 5 0 ∧ s.tm 8 = .ptr 500 0 ∧ s.tm 9 = .d (.ref C) ∧ s.tm 10 = .d (.lst 1 (li .i64 (abK rows k))) ∧ s.tm 29 = .d (.lst 1 (rsD rows)) ∧ s.tm 30 = .d (.c (.int .i64 rows.length)) ∧ s.tm 31 = .d (.c (.int .i64 k)) ∧ s.hp 5 = some (.box [.d (.c (.bool two)), .d (.c (.int .i64 ev)), .d (.c (.bool al)), .d (.c (.bool en))]) ∧ s.hp 500 = some (.box [.sl 600 1 0 (pk f m).length, .d (.c (.int .i64 (m : Nat))), .d (.c (.bool false))]) ∧ s.hp 600 = some (.row 1 (li .u8 (pk f m)))) (fun s => rows.length - (avN (s.tm 31)).toNat) ?_ rfl (by decide) (by decide) ?_ ?_
  · simp -dsimp -implicitDefEqProofs (disch := first | omega | (simp only [List.length_append, List.length_cons, List.length_nil, List.length_take, List.length_drop]; omega)) only [↓aPre, aPost, oneW, allOne, retV, retVA, simprocAttr]
  · refine ⟨0, 0, Nat.zero_le _, by rw [List.drop_zero]; exact hA0, by rw [List.drop_zero, abK, hNe, Nat.zero_add], ?_⟩
    simp -dsimp -implicitDefEqProofs (disch := first | omega | (simp only [List.length_append, List.length_cons, List.length_nil, List.length_take, List.length_drop]; omega)) only [pk_0, Int.natCast_zero, List.set_cons_zero, hrl, abK, li_nil, ↓aPre, aPost, oneW, allOne, retV, retVA, simprocAttr]
  rintro s ⟨k, m, hk, hA, hm, hs⟩
  have hab := abK_ok hR hk
  by_cases hlt : k < rows.length
  · have hr := hR _ (rget_mem hlt)
    have hak : abK rows (k + 1) = rows.getD k [] := rfl
    obtain ⟨r, hre⟩ : ∃ r, r = rows.getD k [] := ⟨_, rfl⟩
    rw [← hre] at hr hak
    rw [rdrop_at hlt, ← hre, g3S] at hA hm
    obtain ⟨A1, A2⟩ := hA.app
    obtain ⟨A2, A3⟩ := A2.app
    rw [List.length_append, List.length_append] at hm
    have he := fun (sg : Bool) (h : sg = sgl two ev k) => hen m al sg (by rw [h]; exact A1) (by omega)
    cases two with
    | false =>
      have he1 := he true rfl
      rw [sgl_f] at A1 A2 A3 hm
      obtain ⟨u, hu⟩ : ∃ u, u = (endL al false true m).length := ⟨_, rfl⟩
      rw [← hu] at A2 A3 hm he1
      rw [bdR, if_pos rfl] at A2 A3 hm
      have hc := hwr (m + u) r (by omega) hr.2 A2 (by omega)
      obtain ⟨v, hv⟩ : ∃ v, v = (rowS (lens w r) 0).length := ⟨_, rfl⟩
      rw [← hv] at A3 hm hc
      simp -dsimp -implicitDefEqProofs (disch := first | omega | (simp only [List.length_append, List.length_cons, List.length_nil, List.length_take, List.length_drop]; omega)) only [hs, hrl, rsD_get, hre.symm, ↓aPre, aPost, oneW, allOne, retV, retVA, simprocAttr]
      refine call_mut he1 [(2000000, 500), (1000000, 600)] rfl rfl ?_ ?_
      · simp -dsimp -implicitDefEqProofs (disch := first | omega | (simp only [List.length_append, List.length_cons, List.length_nil, List.length_take, List.length_drop]; omega)) only [hs, ↓aPre, aPost, oneW, allOne, retV, retVA, simprocAttr]
      simp -dsimp -implicitDefEqProofs (disch := first | omega | (simp only [List.length_append, List.length_cons, List.length_nil, List.length_take, List.length_drop]; omega)) only [hs, ↓aPre, aPost, oneW, allOne, retV, retVA, simprocAttr]
      refine call_mut hc [(2000000, 500), (1000000, 600)] rfl rfl ?_ ?_
      · simp -dsimp -implicitDefEqProofs (disch := first | omega | (simp only [List.length_append, List.length_cons, List.length_nil, List.length_take, List.length_drop]; omega)) only [hs, ↓aPre, aPost, oneW, allOne, retV, retVA, simprocAttr]
      simp -dsimp -implicitDefEqProofs (disch := first | omega | (simp only [List.length_append, List.length_cons, List.length_nil, List.length_take, List.length_drop]; omega)) only [hs, ibne_f, ↓aPre, aPost, oneW, allOne, retV, retVA, simprocAttr]
      refine round_of ⟨k + 1, m + u + v, by omega, by rw [hak]; exact A3, by rw [hak]; omega, ?_⟩ ?_
      · simp -dsimp -implicitDefEqProofs (disch := first | omega | (simp only [List.length_append, List.length_cons, List.length_nil, List.length_take, List.length_drop]; omega)) only [hs, hak, ↓aPre, aPost, oneW, allOne, retV, retVA, simprocAttr]
      · simp -dsimp -implicitDefEqProofs (disch := first | omega | (simp only [List.length_append, List.length_cons, List.length_nil, List.length_take, List.length_drop]; omega)) only [hs, ↓aPre, aPost, oneW, allOne, retV, retVA, simprocAttr]
        omega
    | true =>
      have hev1 := hev rfl
      have hmod : (k : Int).tmod ev = (k : Int) % ev := Int.tmod_eq_emod_of_nonneg (by omega)
      obtain ⟨z, hz⟩ : ∃ z, z = (k : Int) % ev := ⟨_, rfl⟩
      rw [← hz] at hmod
      have hsg : sgl true ev k = decide (z = 0) := by rw [sgl_t, hz]
      rw [hsg] at A1 A2 A3 hm he
      by_cases hz0 : z = 0
      · have he1 := he true (by rw [decide_eq_true hz0])
        rw [decide_eq_true hz0] at A1 A2 A3 hm
        obtain ⟨u, hu⟩ : ∃ u, u = (endL al true true m).length := ⟨_, rfl⟩
        rw [← hu] at A2 A3 hm he1
        rw [bdR, if_pos rfl] at A2 A3 hm
        have hc := hwr (m + u) r (by omega) hr.2 A2 (by omega)
        obtain ⟨v, hv⟩ : ∃ v, v = (rowS (lens w r) 0).length := ⟨_, rfl⟩
        rw [← hv] at A3 hm hc
        simp -dsimp -implicitDefEqProofs (disch := first | omega | (simp only [List.length_append, List.length_cons, List.length_nil, List.length_take, List.length_drop]; omega)) only [hs, hrl, rsD_get, hre.symm, hmod, ibeq_t hz0, ↓aPre, aPost, oneW, allOne, retV, retVA, simprocAttr]
        refine call_mut he1 [(2000000, 500), (1000000, 600)] rfl rfl ?_ ?_
        · simp -dsimp -implicitDefEqProofs (disch := first | omega | (simp only [List.length_append, List.length_cons, List.length_nil, List.length_take, List.length_drop]; omega)) only [hs, ↓aPre, aPost, oneW, allOne, retV, retVA, simprocAttr]
        simp -dsimp -implicitDefEqProofs (disch := first | omega | (simp only [List.length_append, List.length_cons, List.length_nil, List.length_take, List.length_drop]; omega)) only [hs, ↓aPre, aPost, oneW, allOne, retV, retVA, simprocAttr]
        refine call_mut hc [(2000000, 500), (1000000, 600)] rfl rfl ?_ ?_
        · simp -dsimp -implicitDefEqProofs (disch := first | omega | (simp only [List.length_append, List.length_cons, List.length_nil, List.length_take, List.length_drop]; omega)) only [hs, ↓aPre, aPost, oneW, allOne, retV, retVA, simprocAttr]
        simp -dsimp -implicitDefEqProofs (disch := first | omega | (simp only [List.length_append, List.length_cons, List.length_nil, List.length_take, List.length_drop]; omega)) only [hs, ibne_f, ↓aPre, aPost, oneW, allOne, retV, retVA, simprocAttr]
        refine round_of ⟨k + 1, m + u + v, by omega, by rw [hak]; exact A3, by rw [hak]; omega, ?_⟩ ?_
        · simp -dsimp -implicitDefEqProofs (disch := first | omega | (simp only [List.length_append, List.length_cons, List.length_nil, List.length_take, List.length_drop]; omega)) only [hs, hak, ↓aPre, aPost, oneW, allOne, retV, retVA, simprocAttr]
        · simp -dsimp -implicitDefEqProofs (disch := first | omega | (simp only [List.length_append, List.length_cons, List.length_nil, List.length_take, List.length_drop]; omega)) only [hs, ↓aPre, aPost, oneW, allOne, retV, retVA, simprocAttr]
          omega
      · have he1 := he false (by rw [decide_eq_false hz0])
        rw [decide_eq_false hz0] at A1 A2 A3 hm
        obtain ⟨u, hu⟩ : ∃ u, u = (endL al true false m).length := ⟨_, rfl⟩
        rw [← hu] at A2 A3 hm he1
        rw [bdR, if_neg (by simp)] at A2 A3 hm
        have hc := hwa (m + u) r (abK rows k) (by omega) hr.2 (by omega) hab.2 A2 (by omega)
        obtain ⟨v, hv⟩ : ∃ v, v = (agR w r (abK rows k)).length := ⟨_, rfl⟩
        rw [← hv] at A3 hm hc
        simp -dsimp -implicitDefEqProofs (disch := first | omega | (simp only [List.length_append, List.length_cons, List.length_nil, List.length_take, List.length_drop]; omega)) only [hs, hrl, rsD_get, hre.symm, hmod, ibeq_f hz0, ↓aPre, aPost, oneW, allOne, retV, retVA, simprocAttr]
        refine call_mut he1 [(2000000, 500), (1000000, 600)] rfl rfl ?_ ?_
        · simp -dsimp -implicitDefEqProofs (disch := first | omega | (simp only [List.length_append, List.length_cons, List.length_nil, List.length_take, List.length_drop]; omega)) only [hs, ↓aPre, aPost, oneW, allOne, retV, retVA, simprocAttr]
        simp -dsimp -implicitDefEqProofs (disch := first | omega | (simp only [List.length_append, List.length_cons, List.length_nil, List.length_take, List.length_drop]; omega)) only [hs, ↓aPre, aPost, oneW, allOne, retV, retVA, simprocAttr]
        refine call_mut hc [(2000000, 500), (1000000, 600)] rfl rfl ?_ ?_
        · simp -dsimp -implicitDefEqProofs (disch := first | omega | (simp only [List.length_append, List.length_cons, List.length_nil, List.length_take, List.length_drop]; omega)) only [hs, ↓aPre, aPost, oneW, allOne, retV, retVA, simprocAttr]
        simp -dsimp -implicitDefEqProofs (disch := first | omega | (simp only [List.length_append, List.length_cons, List.length_nil, List.length_take, List.length_drop]; omega)) only [hs, ibne_f, ↓aPre, aPost, oneW, allOne, retV, retVA, simprocAttr]
        refine round_of ⟨k + 1, m + u + v, by omega, by rw [hak]; exact A3, by rw [hak]; omega, ?_⟩ ?_
        · simp -dsimp -implicitDefEqProofs (disch := first | omega | (simp only [List.length_append, List.length_cons, List.length_nil, List.length_take, List.length_drop]; omega)) only [hs, hak, ↓aPre, aPost, oneW, allOne, retV, retVA, simprocAttr]
        · simp -dsimp -implicitDefEqProofs (disch := first | omega | (simp only [List.length_append, List.length_cons, List.length_nil, List.length_take, List.length_drop]; omega)) only [hs, ↓aPre, aPost, oneW, allOne, retV, retVA, simprocAttr]
          omega
  · obtain rfl : k = rows.length := by omega
    rw [List.drop_length, g3S] at hA hm
    cases en with
    | false =>
      rw [g3E, if_neg (by simp), List.length_nil, Nat.add_zero] at hm
      subst hm
      simp -dsimp -implicitDefEqProofs (disch := first | omega | (simp only [List.length_append, List.length_cons, List.length_nil, List.length_take, List.length_drop]; omega)) only [hs, ↓aPre, aPost, oneW, allOne, retV, retVA, simprocAttr]
      refine call_mut (hby m (by omega)) [(2000000, 500), (1000000, 600), (5, 700)] rfl rfl ?_ ?_
      · simp -dsimp -implicitDefEqProofs (disch := first | omega | (simp only [List.length_append, List.length_cons, List.length_nil, List.length_take, List.length_drop]; omega)) only [hs, ↓aPre, aPost, oneW, allOne, retV, retVA, simprocAttr]
      simp -dsimp -implicitDefEqProofs (disch := first | omega | (simp only [List.length_append, List.length_cons, List.length_nil, List.length_take, List.length_drop]; omega)) only [hs, take_all, ↓aPre, aPost, oneW, allOne, retV, retVA, simprocAttr]
      exact post_eq rfl
    | true =>
      rw [g3E, if_pos rfl] at hA hm
      obtain ⟨A1, A2⟩ := hA.app
      rw [List.length_append] at hm
      have he1 := hen m al true A1 (by omega)
      obtain ⟨u, hu⟩ : ∃ u, u = (endL al two true m).length := ⟨_, rfl⟩
      rw [← hu] at A2 hm he1
      simp -dsimp -implicitDefEqProofs (disch := first | omega | (simp only [List.length_append, List.length_cons, List.length_nil, List.length_take, List.length_drop]; omega)) only [hs, ↓aPre, aPost, oneW, allOne, retV, retVA, simprocAttr]
      refine call_mut he1 [(2000000, 500), (1000000, 600)] rfl rfl ?_ ?_
      · simp -dsimp -implicitDefEqProofs (disch := first | omega | (simp only [List.length_append, List.length_cons, List.length_nil, List.length_take, List.length_drop]; omega)) only [hs, ↓aPre, aPost, oneW, allOne, retV, retVA, simprocAttr]
      simp -dsimp -implicitDefEqProofs (disch := first | omega | (simp only [List.length_append, List.length_cons, List.length_nil, List.length_take, List.length_drop]; omega)) only [hs, ↓aPre, aPost, oneW, allOne, retV, retVA, simprocAttr]
      refine loop_of (fun s => ∃ (j m : Nat), j ≤ 5 ∧ At f m (tls two (5 - j)) ∧ m + (tls two (5 - j)).length = N ∧ s.tm 5 = .ptr 5 0 ∧ s.tm 8 = .ptr 500 0 ∧ s.tm 73 = .d (.c (.int .i64 j)) ∧ s.hp 5 = some (.box [.d (.c (.bool two)), .d (.c (.int .i64 ev)), .d (.c (.bool false)), .d (.c (.bool true))]) ∧ s.hp 500 = some (.box [.sl 600 1 0 (pk f m).length, .d (.c (.int .i64 (m : Nat))), .d (.c (.bool false))]) ∧ s.hp 600 = some (.row 1 (li .u8 (pk f m)))) (fun s => 5 - (avN (s.tm 73)).toNat) ?_ ?_
      · refine ⟨0, m + u, Nat.zero_le _, A2, by rw [Nat.sub_zero]; omega, ?_⟩
        simp -dsimp -implicitDefEqProofs (disch := first | omega | (simp only [List.length_append, List.length_cons, List.length_nil, List.length_take, List.length_drop]; omega)) only [hs, Int.natCast_zero, List.set_cons_zero, List.set_cons_succ, ↓aPre, aPost, oneW, allOne, retV, retVA, simprocAttr]
      clear hs
      rintro s ⟨j, m, hj, hA, hm, hs⟩
      by_cases hj5 : j < 5
      · rw [show 5 - j = (5 - (j + 1)) + 1 by omega, tls] at hA hm
        obtain ⟨A1, A2⟩ := hA.app
        rw [List.length_append] at hm
        rw [← endF two true m] at A1 A2 hm
        have he1 := hen m false true A1 (by omega)
        obtain ⟨u, hu⟩ : ∃ u, u = (endL false two true m).length := ⟨_, rfl⟩
        rw [← hu] at A2 hm he1
        simp -dsimp -implicitDefEqProofs (disch := first | omega | (simp only [List.length_append, List.length_cons, List.length_nil, List.length_take, List.length_drop]; omega)) only [hs, ↓aPre, aPost, oneW, allOne, retV, retVA, simprocAttr]
        refine call_mut he1 [(2000000, 500), (1000000, 600)] rfl rfl ?_ ?_
        · simp -dsimp -implicitDefEqProofs (disch := first | omega | (simp only [List.length_append, List.length_cons, List.length_nil, List.length_take, List.length_drop]; omega)) only [hs, ↓aPre, aPost, oneW, allOne, retV, retVA, simprocAttr]
        simp -dsimp -implicitDefEqProofs (disch := first | omega | (simp only [List.length_append, List.length_cons, List.length_nil, List.length_take, List.length_drop]; omega)) only [hs, ↓aPre, aPost, oneW, allOne, retV, retVA, simprocAttr]
        refine round_of ⟨j + 1, m + u, by omega, A2, by omega, ?_⟩ ?_
        · simp -dsimp -implicitDefEqProofs (disch := first | omega | (simp only [List.length_append, List.length_cons, List.length_nil, List.length_take, List.length_drop]; omega)) only [hs, ↓aPre, aPost, oneW, allOne, retV, retVA, simprocAttr]
        · simp -dsimp -implicitDefEqProofs (disch := first | omega | (simp only [List.length_append, List.length_cons, List.length_nil, List.length_take, List.length_drop]; omega)) only [hs, ↓aPre, aPost, oneW, allOne, retV, retVA, simprocAttr]
          omega
      · obtain rfl : j = 5 := by omega
        rw [Nat.sub_self, tls, List.length_nil, Nat.add_zero] at hm
        subst hm
        simp -dsimp -implicitDefEqProofs (disch := first | omega | (simp only [List.length_append, List.length_cons, List.length_nil, List.length_take, List.length_drop]; omega)) only [hs, ↓aPre, aPost, oneW, allOne, retV, retVA, simprocAttr]
        refine call_mut (hby m (by omega)) [(2000000, 500), (1000000, 600), (5, 700)] rfl rfl ?_ ?_
        · simp -dsimp -implicitDefEqProofs (disch := first | omega | (simp only [List.length_append, List.length_cons, List.length_nil, List.length_take, List.length_drop]; omega)) only [hs, ↓aPre, aPost, oneW, allOne, retV, retVA, simprocAttr]
        simp -dsimp -implicitDefEqProofs (disch := first | omega | (simp only [List.length_append, List.length_cons, List.length_nil, List.length_take, List.length_drop]; omega)) only [hs, take_all, ↓aPre, aPost, oneW, allOne, retV, retVA, simprocAttr]
        exact post_eq rfl
end Go.Proofs.YtihgplkfikpgbaaDoor
namespace Go.Proofs.YtihgplkfikpgbaaDoor
open Go.Eng Go.RowKit
theorem g3dec_giv (rows : List (List Int)) (w : Int) (two : Bool) (ev : Int) (al en : Bool) (hw : 1 ≤ w ∧ w ≤ 300) (hR : Rws w rows) (hl : rows.length ≤ 1000) (hN : (g3S w al two en ev rows 0 [] 0).length < 700000) :
    Giv Tryd.prog 10 [.lst 1 (li .u8 (pk (stream (g3S w al two en ev rows 0 [] 0)) (g3S w al two en ev rows 0 [] 0).length)), .c (.int .i64 w), .c (.int .i64 rows.length), .c (.bool two)] (retV [.lst 1 (rsD rows), .c (.int .i64 0)]) := by
  obtain ⟨N, hNe⟩ : ∃ N, N = (g3S w al two en ev rows 0 [] 0).length := ⟨_, rfl⟩
  have hf : Bit (stream (g3S w al two en ev rows 0 [] 0)) := stream_bit (g3S_bits w al two en ev rows 0 [] 0)
  have hA0 := stream_at (g3S w al two en ev rows 0 [] 0)
  obtain ⟨f, hfe⟩ : ∃ f, f = stream (g3S w al two en ev rows 0 [] 0) := ⟨_, rfl⟩
  rw [← hfe] at hf hA0 ⊢
  rw [← hNe] at hN ⊢
  have hpl := pk_len f N
  have hBy := pk_bytes hf N
  have hA1 := at_bt hf (n := N) hA0 (by omega)
  obtain ⟨l, hle⟩ : ∃ l, l = pk f N := ⟨_, rfl⟩
  rw [← hle] at hpl hBy hA1 ⊢
  have hll : l.length ≤ 100000 := by omega
  have hra := fun (n : Nat) (r ab : List Int) (h1 : r.length ≤ 300) (h2 : rightW w r (-1) = true) (h5 : ab.length ≤ 300) (h6 : rightW w ab (-1) = true) (h3 : At (bt l) n (agR w r ab)) (h4 : n + (agR w r ab).length ≤ 8 * l.length) => rag_m l hll hBy n r ab w hw h1 h2 h5 h6 h3 h4
  have hrr := fun (n : Nat) (r : List Int) (h1 : r.length ≤ 300) (h2 : rightW w r (-1) = true) (h3 : At (bt l) n (rowS (lens w r) 0)) (h4 : n + (rowS (lens w r) 0).length ≤ 8 * l.length) => rrow_m l hll hBy n r w hw h1 h2 h3 h4
  have hnc := newc_giv
  obtain ⟨C, hC⟩ : ∃ C : List D, coD = .ref C := ⟨_, rfl⟩
  rw [hC] at hrr hra hnc
  have hnr := newreader_m l hll
  have hw1 : ¬ w < 1 := by omega
  have hw2 : ¬ w > 32768 := by omega
  refine Giv.of mixed c10 (Nat.le_of_ble_eq_true rfl) ?_
  simp -dsimp -implicitDefEqProofs (disch := first | omega | (simp only [List.length_append, List.length_cons, List.length_nil, List.length_take, List.length_drop]; omega)) only [a10, hw1, hw2, ↓aPre, aPost, oneW, allOne, retV, retVA, simprocAttr]
  refine call_mut hnr [(10, 500), (5, 600)] rfl rfl ?_ ?_
  · simp -dsimp -implicitDefEqProofs (disch := first | omega | (simp only [List.length_append, List.length_cons, List.length_nil, List.length_take, List.length_drop]; omega)) only [↓aPre, aPost, oneW, allOne, retV, retVA, simprocAttr]
  simp -dsimp -implicitDefEqProofs (disch := first | omega | (simp only [List.length_append, List.length_cons, List.length_nil, List.length_take, List.length_drop]; omega)) only [↓aPre, aPost, oneW, allOne, retV, retVA, simprocAttr]
  refine call_giv hnc ?_
  simp -dsimp -implicitDefEqProofs (disch := first | omega | (simp only [List.length_append, List.length_cons, List.length_nil, List.length_take, List.length_drop]; omega)) only [↓aPre, aPost, oneW, allOne, retV, retVA, simprocAttr]
  refine loop_gh (Gh.ice (t := 13) (n := 34) (es := 1) (off := 0) (len := 0) (L := []) (by simp -dsimp -implicitDefEqProofs (disch := first | omega | (simp only [List.length_append, List.length_cons, List.length_nil, List.length_take, List.length_drop]; omega)) only [↓aPre, aPost, oneW, allOne, retV, retVA, simprocAttr]) (by simp -dsimp -implicitDefEqProofs (disch := first | omega | (simp only [List.length_append, List.length_cons, List.length_nil, List.length_take, List.length_drop]; omega)) only [↓aPre, aPost, oneW, allOne, retV, retVA, simprocAttr]) (by decide) (by decide)) (fun s => ∃ (k m : Nat), k ≤ rows.length ∧ At (bt l) m (g3S w al two en ev (rows.drop k) k (abK rows k) m) ∧ m + (g3S w al two en ev (rows.drop k) k (abK rows k) m).length = N ∧ s.tm 1 = .d (.c (.int .i64 w)) ∧ s.tm 3 = .d (.c (.bool two)) ∧ s.tm 10 = .ptr 500 0 ∧ s.tm 11 = .d (.ref C) ∧ s.tm 12 = .sl 33 1 0 k ∧ s.tm 13 = .d (.lst 1 (li .i64 (abK rows k))) ∧ s.tm 35 = .d (.c (.int .i64 rows.length)) ∧ s.tm 36 = .d (.c (.int .i64 k)) ∧ s.hp 33 = some (.row 1 (rsD (rows.take k))) ∧ s.hp 500 = some (.box [.sl 600 1 0 l.length, .d (.c (.int .i64 (m : Nat))), .d (.c (.bool false))]) ∧ s.hp 600 = some (.row 1 (li .u8 l))) (fun s => rows.length - (avN (s.tm 36)).toNat) ?_ ?_
  · refine ⟨0, 0, Nat.zero_le _, by rw [List.drop_zero]; exact hA1, by rw [List.drop_zero, abK, hNe, Nat.zero_add], ?_⟩
    simp -dsimp -implicitDefEqProofs (disch := first | omega | (simp only [List.length_append, List.length_cons, List.length_nil, List.length_take, List.length_drop]; omega)) only [Int.natCast_zero, List.take_zero, rsD_nil, abK, li_nil, ↓aPre, aPost, oneW, allOne, retV, retVA, simprocAttr]
  rintro s ⟨k, m, hk, hA, hm, hs⟩
  have hab := abK_ok hR hk
  have htl := rsD_tlen hk
  by_cases hlt : k < rows.length
  · have hr := hR _ (rget_mem hlt)
    have hak : abK rows (k + 1) = rows.getD k [] := rfl
    have hsn := rsD_snoc hlt
    obtain ⟨r, hre⟩ : ∃ r, r = rows.getD k [] := ⟨_, rfl⟩
    rw [← hre] at hr hak hsn
    rw [rdrop_at hlt, ← hre, g3S] at hA hm
    obtain ⟨A1, A2⟩ := hA.app
    obtain ⟨A2, A3⟩ := A2.app
    rw [List.length_append, List.length_append] at hm
    obtain ⟨e1, e2, e3, e4⟩ := end_at A1
    obtain ⟨u, hu⟩ : ∃ u, u = (endL al two (sgl two ev k) m).length := ⟨_, rfl⟩
    rw [← hu] at A2 A3 hm e4
    obtain ⟨z, hz⟩ : ∃ z, z = fillN al m := ⟨_, rfl⟩
    rw [← hz] at e1 e2 e3 e4
    have hsk := skip_m l hll hBy m (z + 11) (by omega) e1 e2 (by split at e4 <;> omega)
    have ez : m + (z + 11) + 1 = m + (z + 12) := by omega
    rw [ez] at hsk
    cases two with
    | false =>
      rw [sgl_f, bdR, if_pos rfl] at A2 A3 hm
      simp only [Bool.false_eq_true, if_false, Nat.add_zero] at e4
      rw [← e4] at hsk
      have hc := hrr (m + u) r (by omega) hr.2 A2 (by omega)
      obtain ⟨v, hv⟩ : ∃ v, v = (rowS (lens w r) 0).length := ⟨_, rfl⟩
      rw [← hv] at A3 hm hc
      simp -dsimp -implicitDefEqProofs (disch := first | omega | (simp only [List.length_append, List.length_cons, List.length_nil, List.length_take, List.length_drop]; omega)) only [hs, ↓aPre, aPost, oneW, allOne, retV, retVA, simprocAttr]
      refine call_mut hsk [(2000000, 500), (1000000, 600)] rfl rfl ?_ ?_
      · simp -dsimp -implicitDefEqProofs (disch := first | omega | (simp only [List.length_append, List.length_cons, List.length_nil, List.length_take, List.length_drop]; omega)) only [hs, ↓aPre, aPost, oneW, allOne, retV, retVA, simprocAttr]
      simp -dsimp -implicitDefEqProofs (disch := first | omega | (simp only [List.length_append, List.length_cons, List.length_nil, List.length_take, List.length_drop]; omega)) only [hs, ibne_f, ibeq_t, ↓aPre, aPost, oneW, allOne, retV, retVA, simprocAttr]
      refine call_mut hc [(2000000, 500), (1000000, 600)] rfl rfl ?_ ?_
      · simp -dsimp -implicitDefEqProofs (disch := first | omega | (simp only [List.length_append, List.length_cons, List.length_nil, List.length_take, List.length_drop]; omega)) only [hs, ↓aPre, aPost, oneW, allOne, retV, retVA, simprocAttr]
      simp -dsimp -implicitDefEqProofs (disch := first | omega | (simp only [List.length_append, List.length_cons, List.length_nil, List.length_take, List.length_drop]; omega)) only [hs, ibne_f, htl, hsn, ↓aPre, aPost, oneW, allOne, retV, retVA, simprocAttr]
      refine round_of ⟨k + 1, m + u + v, by omega, by rw [hak]; exact A3, by rw [hak]; omega, ?_⟩ ?_
      · simp -dsimp -implicitDefEqProofs (disch := first | omega | (simp only [List.length_append, List.length_cons, List.length_nil, List.length_take, List.length_drop]; omega)) only [hs, htl, hsn, hak, ↓aPre, aPost, oneW, allOne, retV, retVA, simprocAttr]
      · simp -dsimp -implicitDefEqProofs (disch := first | omega | (simp only [List.length_append, List.length_cons, List.length_nil, List.length_take, List.length_drop]; omega)) only [hs, ↓aPre, aPost, oneW, allOne, retV, retVA, simprocAttr]
        omega
    | true =>
      simp only [if_true] at e4
      have hrd := rd1_m l hll hBy (m + (z + 12)) (by omega)
      rw [e3 rfl] at hrd
      have eu : m + (z + 12) + 1 = m + u := by omega
      rw [eu] at hrd
      obtain ⟨sg, hsg⟩ : ∃ sg, sg = sgl true ev k := ⟨_, rfl⟩
      rw [← hsg] at A2 A3 hm hrd
      cases sg with
      | true =>
        rw [bdR, if_pos rfl] at A2 A3 hm
        rw [if_pos rfl] at hrd
        have hc := hrr (m + u) r (by omega) hr.2 A2 (by omega)
        obtain ⟨v, hv⟩ : ∃ v, v = (rowS (lens w r) 0).length := ⟨_, rfl⟩
        rw [← hv] at A3 hm hc
        simp -dsimp -implicitDefEqProofs (disch := first | omega | (simp only [List.length_append, List.length_cons, List.length_nil, List.length_take, List.length_drop]; omega)) only [hs, ↓aPre, aPost, oneW, allOne, retV, retVA, simprocAttr]
        refine call_mut hsk [(2000000, 500), (1000000, 600)] rfl rfl ?_ ?_
        · simp -dsimp -implicitDefEqProofs (disch := first | omega | (simp only [List.length_append, List.length_cons, List.length_nil, List.length_take, List.length_drop]; omega)) only [hs, ↓aPre, aPost, oneW, allOne, retV, retVA, simprocAttr]
        simp -dsimp -implicitDefEqProofs (disch := first | omega | (simp only [List.length_append, List.length_cons, List.length_nil, List.length_take, List.length_drop]; omega)) only [hs, ibne_f, ↓aPre, aPost, oneW, allOne, retV, retVA, simprocAttr]
        refine call_mut hrd [(2000000, 500), (1000000, 600)] rfl rfl ?_ ?_
        · simp -dsimp -implicitDefEqProofs (disch := first | omega | (simp only [List.length_append, List.length_cons, List.length_nil, List.length_take, List.length_drop]; omega)) only [hs, ↓aPre, aPost, oneW, allOne, retV, retVA, simprocAttr]
        simp -dsimp -implicitDefEqProofs (disch := first | omega | (simp only [List.length_append, List.length_cons, List.length_nil, List.length_take, List.length_drop]; omega)) only [hs, ibne_f, ibeq_t, ↓aPre, aPost, oneW, allOne, retV, retVA, simprocAttr]
        refine call_mut hc [(2000000, 500), (1000000, 600)] rfl rfl ?_ ?_
        · simp -dsimp -implicitDefEqProofs (disch := first | omega | (simp only [List.length_append, List.length_cons, List.length_nil, List.length_take, List.length_drop]; omega)) only [hs, ↓aPre, aPost, oneW, allOne, retV, retVA, simprocAttr]
        simp -dsimp -implicitDefEqProofs (disch := first | omega | (simp only [List.length_append, List.length_cons, List.length_nil, List.length_take, List.length_drop]; omega)) only [hs, ibne_f, htl, hsn, ↓aPre, aPost, oneW, allOne, retV, retVA, simprocAttr]
        refine round_of ⟨k + 1, m + u + v, by omega, by rw [hak]; exact A3, by rw [hak]; omega, ?_⟩ ?_
        · simp -dsimp -implicitDefEqProofs (disch := first | omega | (simp only [List.length_append, List.length_cons, List.length_nil, List.length_take, List.length_drop]; omega)) only [hs, htl, hsn, hak, ↓aPre, aPost, oneW, allOne, retV, retVA, simprocAttr]
        · simp -dsimp -implicitDefEqProofs (disch := first | omega | (simp only [List.length_append, List.length_cons, List.length_nil, List.length_take, List.length_drop]; omega)) only [hs, ↓aPre, aPost, oneW, allOne, retV, retVA, simprocAttr]
          omega
      | false =>
        rw [bdR, if_neg (by simp)] at A2 A3 hm
        rw [if_neg (by simp)] at hrd
        have h01 : ¬ (0 : Int) = 1 := by decide
        have hc := hra (m + u) r (abK rows k) (by omega) hr.2 (by omega) hab.2 A2 (by omega)
        obtain ⟨v, hv⟩ : ∃ v, v = (agR w r (abK rows k)).length := ⟨_, rfl⟩
        rw [← hv] at A3 hm hc
        simp -dsimp -implicitDefEqProofs (disch := first | omega | (simp only [List.length_append, List.length_cons, List.length_nil, List.length_take, List.length_drop]; omega)) only [hs, ↓aPre, aPost, oneW, allOne, retV, retVA, simprocAttr]
        refine call_mut hsk [(2000000, 500), (1000000, 600)] rfl rfl ?_ ?_
        · simp -dsimp -implicitDefEqProofs (disch := first | omega | (simp only [List.length_append, List.length_cons, List.length_nil, List.length_take, List.length_drop]; omega)) only [hs, ↓aPre, aPost, oneW, allOne, retV, retVA, simprocAttr]
        simp -dsimp -implicitDefEqProofs (disch := first | omega | (simp only [List.length_append, List.length_cons, List.length_nil, List.length_take, List.length_drop]; omega)) only [hs, ibne_f, ↓aPre, aPost, oneW, allOne, retV, retVA, simprocAttr]
        refine call_mut hrd [(2000000, 500), (1000000, 600)] rfl rfl ?_ ?_
        · simp -dsimp -implicitDefEqProofs (disch := first | omega | (simp only [List.length_append, List.length_cons, List.length_nil, List.length_take, List.length_drop]; omega)) only [hs, ↓aPre, aPost, oneW, allOne, retV, retVA, simprocAttr]
        simp -dsimp -implicitDefEqProofs (disch := first | omega | (simp only [List.length_append, List.length_cons, List.length_nil, List.length_take, List.length_drop]; omega)) only [hs, ibne_f, ibeq_f h01, ↓aPre, aPost, oneW, allOne, retV, retVA, simprocAttr]
        refine call_mut hc [(2000000, 500), (1000000, 600)] rfl rfl ?_ ?_
        · simp -dsimp -implicitDefEqProofs (disch := first | omega | (simp only [List.length_append, List.length_cons, List.length_nil, List.length_take, List.length_drop]; omega)) only [hs, ↓aPre, aPost, oneW, allOne, retV, retVA, simprocAttr]
        simp -dsimp -implicitDefEqProofs (disch := first | omega | (simp only [List.length_append, List.length_cons, List.length_nil, List.length_take, List.length_drop]; omega)) only [hs, ibne_f, htl, hsn, ↓aPre, aPost, oneW, allOne, retV, retVA, simprocAttr]
        refine round_of ⟨k + 1, m + u + v, by omega, by rw [hak]; exact A3, by rw [hak]; omega, ?_⟩ ?_
        · simp -dsimp -implicitDefEqProofs (disch := first | omega | (simp only [List.length_append, List.length_cons, List.length_nil, List.length_take, List.length_drop]; omega)) only [hs, htl, hsn, hak, ↓aPre, aPost, oneW, allOne, retV, retVA, simprocAttr]
        · simp -dsimp -implicitDefEqProofs (disch := first | omega | (simp only [List.length_append, List.length_cons, List.length_nil, List.length_take, List.length_drop]; omega)) only [hs, ↓aPre, aPost, oneW, allOne, retV, retVA, simprocAttr]
          omega
  · obtain rfl : k = rows.length := by omega
    simp -dsimp -implicitDefEqProofs (disch := first | omega | (simp only [List.length_append, List.length_cons, List.length_nil, List.length_take, List.length_drop]; omega)) only [hs, htl, List.take_length, rsD_len, take_all, ↓aPre, aPost, oneW, allOne, retV, retVA, simprocAttr]
    exact post_eq (by rw [take_all (by rw [rsD_len]; exact Nat.le_refl _)])
end Go.Proofs.YtihgplkfikpgbaaDoor
