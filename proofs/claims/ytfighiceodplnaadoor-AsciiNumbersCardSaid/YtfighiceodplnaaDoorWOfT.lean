/- The time of a number; the reference's number; the chapter's example. No condition but what each says. -/
import Derived.Test.YtfighiceodplnaaDoorWDate
set_option linter.unusedSimpArgs false
set_option linter.unusedVariables false
set_option maxRecDepth 8000
set_option maxHeartbeats 4000000
namespace Go.Proofs.YtfighiceodplnaaDoor
open Go.Eng Go.RowKit
def lastN : Int := 315569519999
theorem last_giv : Giv Tryd.prog 10 [tD 9999 12 31 23 59 59] (retV [.c (.int .i64 lastN), .c (.int .i64 0)]) := by
  have h := number_t 9999 12 31 23 59 59 (by decide) (by decide) (by decide +kernel) (by decide) (by decide) (by decide)
  rwa [show num 9999 12 31 23 59 59 = lastN from by
    have hy := yS_pos 9998
    rw [num, hy]
    decide +kernel] at h
theorem of_f (n : Int) (h : n < 0 ∨ lastN < n) : Giv Tryd.prog 13 [.c (.int .i64 n)] (retV [tD 0 0 0 0 0 0, .c (.int .i64 1)]) := by
  refine Giv.of mixed c13 (Nat.le_of_ble_eq_true rfl) ?_
  have hl := last_giv
  have hln : lastN = 315569519999 := rfl
  simp -dsimp -implicitDefEqProofs (disch := first | omega | (simp only [List.length_append, List.length_cons, List.length_nil, List.length_take, List.length_drop]; omega)) only [a13, ↓aPre, aPost, oneW, allOne, retV, retVA, simprocAttr]
  refine call_giv hl ?_
  rcases h with h | h
  · simp -dsimp -implicitDefEqProofs (disch := first | omega | (simp only [List.length_append, List.length_cons, List.length_nil, List.length_take, List.length_drop]; omega)) only [↓aPre, aPost, oneW, allOne, retV, retVA, simprocAttr]
    exact post_eq rfl
  · by_cases h0 : n < 0
    · simp -dsimp -implicitDefEqProofs (disch := first | omega | (simp only [List.length_append, List.length_cons, List.length_nil, List.length_take, List.length_drop]; omega)) only [↓aPre, aPost, oneW, allOne, retV, retVA, simprocAttr]
      exact post_eq rfl
    · simp -dsimp -implicitDefEqProofs (disch := first | omega | (simp only [List.length_append, List.length_cons, List.length_nil, List.length_take, List.length_drop]; omega)) only [↓aPre, aPost, oneW, allOne, retV, retVA, simprocAttr]
      exact post_eq rfl
theorem of_t (n : Int) (h0 : 0 ≤ n) (h1 : n ≤ lastN) (y m : Nat) (hd : dateP (n / 86400) y m) : Giv Tryd.prog 13 [.c (.int .i64 n)] (retV [tD y m (1 + (n / 86400 - yS y - mS y (m - 1))) (n / 3600 % 24) (n / 60 % 60) (n % 60), .c (.int .i64 0)]) := by
  refine Giv.of mixed c13 (Nat.le_of_ble_eq_true rfl) ?_
  have hl := last_giv
  have hln : lastN = 315569519999 := rfl
  obtain ⟨D, hD⟩ : ∃ D : Int, D = n / 86400 := ⟨_, rfl⟩
  have hD1 : n / 60 / 60 / 24 = D := by omega
  have hD2 : n / 60 / 60 % 24 = n / 3600 % 24 := by omega
  rw [← hD] at hd ⊢
  have hDb : 0 ≤ D ∧ D ≤ 3652424 := by omega
  obtain ⟨e, he⟩ : ∃ e : Int, e = n / 3600 % 24 := ⟨_, rfl⟩
  obtain ⟨f, hf⟩ : ∃ f : Int, f = n / 60 % 60 := ⟨_, rfl⟩
  obtain ⟨g, hg⟩ : ∃ g : Int, g = n % 60 := ⟨_, rfl⟩
  have he1 : n / 60 / 60 % 24 = e := by omega
  rw [← he, ← hf, ← hg]
  simp -dsimp -implicitDefEqProofs (disch := first | omega | (simp only [List.length_append, List.length_cons, List.length_nil, List.length_take, List.length_drop]; omega)) only [a13, ↓aPre, aPost, oneW, allOne, retV, retVA, simprocAttr]
  refine call_giv hl ?_
  simp -dsimp -implicitDefEqProofs (disch := first | omega | (simp only [List.length_append, List.length_cons, List.length_nil, List.length_take, List.length_drop]; omega)) only [hD1, he1, ← hf, ← hg, ↓aPre, aPost, oneW, allOne, retV, retVA, simprocAttr]
  refine loop_of (fun s => ∃ (x : Nat), yS x ≤ D ∧ s.tm 7 = .d (.c (.int .i64 (D - yS x))) ∧ s.tm 2 = .ptr 2 0 ∧ s.hp 2 = some (.box [.d (.c (.int .i64 0)), .d (.c (.int .i64 0)), .d (.c (.int .i64 0)), .d (.c (.int .i64 0)), .d (.c (.int .i64 0)), .d (.c (.int .i64 0))]) ∧ s.tm 6 = .ptr 6 0 ∧ s.hp 6 = some (.box [.d (.c (.int .i64 x)), .d (.c (.int .i64 1)), .d (.c (.int .i64 1)), .d (.c (.int .i64 e)), .d (.c (.int .i64 f)), .d (.c (.int .i64 g))])) (fun s => (avN (s.tm 7)).toNat) ?_ ?_
  · refine ⟨0, by rw [yS]; omega, ?_⟩
    simp -dsimp -implicitDefEqProofs (disch := first | omega | (simp only [List.length_append, List.length_cons, List.length_nil, List.length_take, List.length_drop]; omega)) only [hD1, he1, ← hf, ← hg, yS, Int.natCast_zero, ↓aPre, aPost, oneW, allOne, retV, retVA, simprocAttr]
  rintro s ⟨x, hx, hs⟩
  have hxb := yS_b x
  have hfb := feb_b x
  have hnx : yS (x + 1) = yS x + 337 + feb x := rfl
  simp -dsimp -implicitDefEqProofs (disch := first | omega | (simp only [List.length_append, List.length_cons, List.length_nil, List.length_take, List.length_drop]; omega)) only [hs, ↓aPre, aPost, oneW, allOne, retV, retVA, simprocAttr]
  refine call_giv (leap_giv x (by omega)) ?_
  by_cases hlp : leapP (x : Int)
  · have hfe : feb (x : Int) = 29 := if_pos hlp
    by_cases hlt : D - yS x < 366
    · obtain rfl := year_one hd.y1 hd.y2 hx (by omega)
      simp -dsimp -implicitDefEqProofs (disch := first | omega | (simp only [List.length_append, List.length_cons, List.length_nil, List.length_take, List.length_drop]; omega)) only [hs, hlp, ↓aPre, aPost, oneW, allOne, retV, retVA, simprocAttr]
      have h12 := mS_12 y
      have hd12 : D - yS y < mS y 12 := by omega
      refine loop_of (fun s => ∃ (k : Nat), k ≤ 11 ∧ mS y k ≤ D - yS y ∧ s.tm 7 = .d (.c (.int .i64 (D - yS y - mS y k))) ∧ s.tm 2 = .ptr 2 0 ∧ s.hp 2 = some (.box [.d (.c (.int .i64 0)), .d (.c (.int .i64 0)), .d (.c (.int .i64 0)), .d (.c (.int .i64 0)), .d (.c (.int .i64 0)), .d (.c (.int .i64 0))]) ∧ s.tm 6 = .ptr 6 0 ∧ s.hp 6 = some (.box [.d (.c (.int .i64 y)), .d (.c (.int .i64 (k + 1 : Nat))), .d (.c (.int .i64 1)), .d (.c (.int .i64 e)), .d (.c (.int .i64 f)), .d (.c (.int .i64 g))])) (fun s => (avN (s.tm 7)).toNat) ?_ ?_
      · refine ⟨0, by omega, by rw [mS]; omega, ?_⟩
        simp -dsimp -implicitDefEqProofs (disch := first | omega | (simp only [List.length_append, List.length_cons, List.length_nil, List.length_take, List.length_drop]; omega)) only [hs, mS, Int.natCast_zero, ↓aPre, aPost, oneW, allOne, retV, retVA, simprocAttr]
      rintro s3 ⟨k, hk, hk2, hs3⟩
      have hdg := days_giv y (k + 1 : Nat) (by omega)
      have hdb := dys_b y (k + 1 : Nat)
      have hmn : mS y (k + 1) = mS y k + dys y (k + 1 : Nat) := rfl
      have hmb := mS_b y k
      rw [Int.natCast_add, Int.natCast_one] at hdg hdb hmn
      simp -dsimp -implicitDefEqProofs (disch := first | omega | (simp only [List.length_append, List.length_cons, List.length_nil, List.length_take, List.length_drop]; omega)) only [hs3, ↓aPre, aPost, oneW, allOne, retV, retVA, simprocAttr]
      refine call_giv hdg ?_
      by_cases hkl : dys y ((k : Int) + 1) ≤ D - yS y - mS y k
      · have hk11 : k < 11 := by
          rcases Nat.lt_or_ge k 11 with h | h
          · exact h
          · obtain rfl : k = 11 := by omega
            have hd13 : D - yS y < mS (y : Int) (11 + 1) := hd12
            omega
        simp -dsimp -implicitDefEqProofs (disch := first | omega | (simp only [List.length_append, List.length_cons, List.length_nil, List.length_take, List.length_drop]; omega)) only [hs3, ↓aPre, aPost, oneW, allOne, retV, retVA, simprocAttr]
        refine call_giv hdg ?_
        simp -dsimp -implicitDefEqProofs (disch := first | omega | (simp only [List.length_append, List.length_cons, List.length_nil, List.length_take, List.length_drop]; omega)) only [hs3, ↓aPre, aPost, oneW, allOne, retV, retVA, simprocAttr]
        refine round_of ⟨k + 1, by omega, by omega, ?_⟩ ?_
        · have e3 : D - yS y - mS y k - dys y ((k : Int) + 1) = D - yS y - mS y (k + 1) := by omega
          simp -dsimp -implicitDefEqProofs (disch := first | omega | (simp only [List.length_append, List.length_cons, List.length_nil, List.length_take, List.length_drop]; omega)) only [hs3, e3, ↓aPre, aPost, oneW, allOne, retV, retVA, simprocAttr]
        · simp -dsimp -implicitDefEqProofs (disch := first | omega | (simp only [List.length_append, List.length_cons, List.length_nil, List.length_take, List.length_drop]; omega)) only [hs3, ↓aPre, aPost, oneW, allOne, retV, retVA, simprocAttr]
          omega
      · obtain rfl := month_one (y := y) (m := m) (m' := k + 1) hd.m1 (by omega) hd.d1 hd.d2 (by rw [Nat.add_sub_cancel]; exact hk2) (by omega)
        simp -dsimp -implicitDefEqProofs (disch := first | omega | (simp only [List.length_append, List.length_cons, List.length_nil, List.length_take, List.length_drop]; omega)) only [hs3, ↓aPre, aPost, oneW, allOne, retV, retVA, simprocAttr]
        refine post_eq ?_
        rw [Nat.add_sub_cancel]
        rfl
    · simp -dsimp -implicitDefEqProofs (disch := first | omega | (simp only [List.length_append, List.length_cons, List.length_nil, List.length_take, List.length_drop]; omega)) only [hs, hlp, ↓aPre, aPost, oneW, allOne, retV, retVA, simprocAttr]
      refine round_of ⟨x + 1, by omega, ?_⟩ ?_
      · have e3 : D - yS x - 366 = D - yS (x + 1) := by omega
        simp -dsimp -implicitDefEqProofs (disch := first | omega | (simp only [List.length_append, List.length_cons, List.length_nil, List.length_take, List.length_drop]; omega)) only [hs, e3, ↓aPre, aPost, oneW, allOne, retV, retVA, simprocAttr]
      · simp -dsimp -implicitDefEqProofs (disch := first | omega | (simp only [List.length_append, List.length_cons, List.length_nil, List.length_take, List.length_drop]; omega)) only [hs, ↓aPre, aPost, oneW, allOne, retV, retVA, simprocAttr]
        omega
  · have hfe : feb (x : Int) = 28 := if_neg hlp
    by_cases hlt : D - yS x < 365
    · obtain rfl := year_one hd.y1 hd.y2 hx (by omega)
      simp -dsimp -implicitDefEqProofs (disch := first | omega | (simp only [List.length_append, List.length_cons, List.length_nil, List.length_take, List.length_drop]; omega)) only [hs, hlp, ↓aPre, aPost, oneW, allOne, retV, retVA, simprocAttr]
      have h12 := mS_12 y
      have hd12 : D - yS y < mS y 12 := by omega
      refine loop_of (fun s => ∃ (k : Nat), k ≤ 11 ∧ mS y k ≤ D - yS y ∧ s.tm 7 = .d (.c (.int .i64 (D - yS y - mS y k))) ∧ s.tm 2 = .ptr 2 0 ∧ s.hp 2 = some (.box [.d (.c (.int .i64 0)), .d (.c (.int .i64 0)), .d (.c (.int .i64 0)), .d (.c (.int .i64 0)), .d (.c (.int .i64 0)), .d (.c (.int .i64 0))]) ∧ s.tm 6 = .ptr 6 0 ∧ s.hp 6 = some (.box [.d (.c (.int .i64 y)), .d (.c (.int .i64 (k + 1 : Nat))), .d (.c (.int .i64 1)), .d (.c (.int .i64 e)), .d (.c (.int .i64 f)), .d (.c (.int .i64 g))])) (fun s => (avN (s.tm 7)).toNat) ?_ ?_
      · refine ⟨0, by omega, by rw [mS]; omega, ?_⟩
        simp -dsimp -implicitDefEqProofs (disch := first | omega | (simp only [List.length_append, List.length_cons, List.length_nil, List.length_take, List.length_drop]; omega)) only [hs, mS, Int.natCast_zero, ↓aPre, aPost, oneW, allOne, retV, retVA, simprocAttr]
      rintro s3 ⟨k, hk, hk2, hs3⟩
      have hdg := days_giv y (k + 1 : Nat) (by omega)
      have hdb := dys_b y (k + 1 : Nat)
      have hmn : mS y (k + 1) = mS y k + dys y (k + 1 : Nat) := rfl
      have hmb := mS_b y k
      rw [Int.natCast_add, Int.natCast_one] at hdg hdb hmn
      simp -dsimp -implicitDefEqProofs (disch := first | omega | (simp only [List.length_append, List.length_cons, List.length_nil, List.length_take, List.length_drop]; omega)) only [hs3, ↓aPre, aPost, oneW, allOne, retV, retVA, simprocAttr]
      refine call_giv hdg ?_
      by_cases hkl : dys y ((k : Int) + 1) ≤ D - yS y - mS y k
      · have hk11 : k < 11 := by
          rcases Nat.lt_or_ge k 11 with h | h
          · exact h
          · obtain rfl : k = 11 := by omega
            have hd13 : D - yS y < mS (y : Int) (11 + 1) := hd12
            omega
        simp -dsimp -implicitDefEqProofs (disch := first | omega | (simp only [List.length_append, List.length_cons, List.length_nil, List.length_take, List.length_drop]; omega)) only [hs3, ↓aPre, aPost, oneW, allOne, retV, retVA, simprocAttr]
        refine call_giv hdg ?_
        simp -dsimp -implicitDefEqProofs (disch := first | omega | (simp only [List.length_append, List.length_cons, List.length_nil, List.length_take, List.length_drop]; omega)) only [hs3, ↓aPre, aPost, oneW, allOne, retV, retVA, simprocAttr]
        refine round_of ⟨k + 1, by omega, by omega, ?_⟩ ?_
        · have e3 : D - yS y - mS y k - dys y ((k : Int) + 1) = D - yS y - mS y (k + 1) := by omega
          simp -dsimp -implicitDefEqProofs (disch := first | omega | (simp only [List.length_append, List.length_cons, List.length_nil, List.length_take, List.length_drop]; omega)) only [hs3, e3, ↓aPre, aPost, oneW, allOne, retV, retVA, simprocAttr]
        · simp -dsimp -implicitDefEqProofs (disch := first | omega | (simp only [List.length_append, List.length_cons, List.length_nil, List.length_take, List.length_drop]; omega)) only [hs3, ↓aPre, aPost, oneW, allOne, retV, retVA, simprocAttr]
          omega
      · obtain rfl := month_one (y := y) (m := m) (m' := k + 1) hd.m1 (by omega) hd.d1 hd.d2 (by rw [Nat.add_sub_cancel]; exact hk2) (by omega)
        simp -dsimp -implicitDefEqProofs (disch := first | omega | (simp only [List.length_append, List.length_cons, List.length_nil, List.length_take, List.length_drop]; omega)) only [hs3, ↓aPre, aPost, oneW, allOne, retV, retVA, simprocAttr]
        refine post_eq ?_
        rw [Nat.add_sub_cancel]
        rfl
    · simp -dsimp -implicitDefEqProofs (disch := first | omega | (simp only [List.length_append, List.length_cons, List.length_nil, List.length_take, List.length_drop]; omega)) only [hs, hlp, ↓aPre, aPost, oneW, allOne, retV, retVA, simprocAttr]
      refine round_of ⟨x + 1, by omega, ?_⟩ ?_
      · have e3 : D - yS x - 365 = D - yS (x + 1) := by omega
        simp -dsimp -implicitDefEqProofs (disch := first | omega | (simp only [List.length_append, List.length_cons, List.length_nil, List.length_take, List.length_drop]; omega)) only [hs, e3, ↓aPre, aPost, oneW, allOne, retV, retVA, simprocAttr]
      · simp -dsimp -implicitDefEqProofs (disch := first | omega | (simp only [List.length_append, List.length_cons, List.length_nil, List.length_take, List.length_drop]; omega)) only [hs, ↓aPre, aPost, oneW, allOne, retV, retVA, simprocAttr]
        omega
def daysL (y : Int) : List Int := [31, feb y, 31, 30, 31, 30, 31, 31, 30, 31, 30, 31]
theorem rdays_giv (y : Int) (h : 0 ≤ y) : Giv Tryd.prog 20 [.c (.int .i64 y)] (retV [.lst 1 (li .i64 (daysL y))]) := by
  refine Giv.of mixed c20 (Nat.le_of_ble_eq_true rfl) ?_
  have fin : ∀ (b : Bool), (b = true → feb y = 29) → (b = false → feb y = 28) → feb y = if b then 29 else 28 := fun b h1 h2 => by
    cases b
    · exact h2 rfl
    · exact h1 rfl
  by_cases hl : leapP y
  · have hf : feb y = 29 := if_pos hl
    by_cases h4 : y % 4 = 0
    · by_cases h1 : y % 100 = 0
      · have h400 : y % 400 = 0 := by unfold leapP at hl; omega
        simp -dsimp -implicitDefEqProofs (disch := first | omega | (simp only [List.length_append, List.length_cons, List.length_nil, List.length_take, List.length_drop]; omega)) only [a20, h4, h1, h400, List.set_cons_succ, List.set_cons_zero, ↓aPre, aPost, oneW, allOne, retV, retVA, simprocAttr]
        refine post_eq ?_
        rw [daysL, hf]; rfl
      · simp -dsimp -implicitDefEqProofs (disch := first | omega | (simp only [List.length_append, List.length_cons, List.length_nil, List.length_take, List.length_drop]; omega)) only [a20, h4, h1, List.set_cons_succ, List.set_cons_zero, ↓aPre, aPost, oneW, allOne, retV, retVA, simprocAttr]
        refine post_eq ?_
        rw [daysL, hf]; rfl
    · unfold leapP at hl; omega
  · have hf : feb y = 28 := if_neg hl
    have h400 : ¬ y % 400 = 0 := fun h => hl (.inr h)
    by_cases h4 : y % 4 = 0
    · by_cases h1 : y % 100 = 0
      · simp -dsimp -implicitDefEqProofs (disch := first | omega | (simp only [List.length_append, List.length_cons, List.length_nil, List.length_take, List.length_drop]; omega)) only [a20, h4, h1, h400, ↓aPre, aPost, oneW, allOne, retV, retVA, simprocAttr]
        refine post_eq ?_
        rw [daysL, hf]; rfl
      · exact (hl (.inl ⟨h4, h1⟩)).elim
    · simp -dsimp -implicitDefEqProofs (disch := first | omega | (simp only [List.length_append, List.length_cons, List.length_nil, List.length_take, List.length_drop]; omega)) only [a20, h4, h400, ↓aPre, aPost, oneW, allOne, retV, retVA, simprocAttr]
      refine post_eq ?_
      rw [daysL, hf]; rfl
theorem daysL_get (y : Int) : ∀ k, k < 12 → (daysL y).getD k 0 = dys y (k + 1 : Nat)
  | 0, _ => rfl
  | 1, _ => rfl
  | 2, _ => rfl
  | 3, _ => rfl
  | 4, _ => rfl
  | 5, _ => rfl
  | 6, _ => rfl
  | 7, _ => rfl
  | 8, _ => rfl
  | 9, _ => rfl
  | 10, _ => rfl
  | 11, _ => rfl
  | n + 12, h => by omega
theorem rlast_giv : Giv Tryd.prog 15 [.lst 1 (li .i64 [9999, 12, 31, 23, 59, 59])] (retV [.c (.int .i64 lastN)]) := by
  refine Giv.of mixed c15 (Nat.le_of_ble_eq_true rfl) ?_
  simp -dsimp -implicitDefEqProofs (disch := first | omega | (simp only [List.length_append, List.length_cons, List.length_nil, List.length_take, List.length_drop]; omega)) only [a15, ↓aPre, aPost, oneW, allOne, retV, retVA, simprocAttr]
  refine loop_of (fun s => ∃ (y : Nat), y ≤ 9999 ∧ s.tm 4 = .d (.c (.int .i64 y)) ∧ s.tm 3 = .d (.c (.int .i64 (yS y))) ∧ s.tm 0 = .d (.lst 1 (li .i64 [9999, 12, 31, 23, 59, 59]))) (fun s => 9999 - (avN (s.tm 4)).toNat) ?_ ?_
  · refine ⟨0, by omega, ?_⟩
    simp -dsimp -implicitDefEqProofs (disch := first | omega | (simp only [List.length_append, List.length_cons, List.length_nil, List.length_take, List.length_drop]; omega)) only [yS, Int.natCast_zero, ↓aPre, aPost, oneW, allOne, retV, retVA, simprocAttr]
  rintro s ⟨y, hy, hs⟩
  have hyb := yS_b y
  have hfb := feb_b y
  by_cases hlt : y < 9999
  · have h1 : (daysL (y : Int)).getD 1 0 = feb y := rfl
    have hl : (daysL (y : Int)).length = 12 := rfl
    simp -dsimp -implicitDefEqProofs (disch := first | omega | (simp only [List.length_append, List.length_cons, List.length_nil, List.length_take, List.length_drop]; omega)) only [hs, List.getD_cons_zero, ↓aPre, aPost, oneW, allOne, retV, retVA, simprocAttr]
    refine call_giv (rdays_giv y (by omega)) ?_
    simp -dsimp -implicitDefEqProofs (disch := first | omega | (simp only [List.length_append, List.length_cons, List.length_nil, List.length_take, List.length_drop]; omega)) only [hs, h1, hl, ↓aPre, aPost, oneW, allOne, retV, retVA, simprocAttr]
    refine round_of ⟨y + 1, by omega, ?_⟩ ?_
    · simp -dsimp -implicitDefEqProofs (disch := first | omega | (simp only [List.length_append, List.length_cons, List.length_nil, List.length_take, List.length_drop]; omega)) only [hs, h1, hl, yS, Int.add_assoc, ↓aPre, aPost, oneW, allOne, retV, retVA, simprocAttr]
    · simp -dsimp -implicitDefEqProofs (disch := first | omega | (simp only [List.length_append, List.length_cons, List.length_nil, List.length_take, List.length_drop]; omega)) only [hs, ↓aPre, aPost, oneW, allOne, retV, retVA, simprocAttr]
      omega
  · obtain rfl : y = 9999 := by omega
    have hy9 : yS 9999 = 3652060 := by rw [yS_pos 9998]; decide +kernel
    rw [hy9] at hs
    simp -dsimp -implicitDefEqProofs (disch := first | omega | (simp only [List.length_append, List.length_cons, List.length_nil, List.length_take, List.length_drop]; omega)) only [hs, ↓aPre, aPost, oneW, allOne, retV, retVA, simprocAttr]
    refine loop_of (fun s => ∃ (k : Nat), k ≤ 11 ∧ s.tm 5 = .d (.c (.int .i64 (k + 1 : Nat))) ∧ s.tm 3 = .d (.c (.int .i64 (3652060 + mS 9999 k))) ∧ s.tm 0 = .d (.lst 1 (li .i64 [9999, 12, 31, 23, 59, 59]))) (fun s => 12 - (avN (s.tm 5)).toNat) ?_ ?_
    · refine ⟨0, by omega, ?_⟩
      simp -dsimp -implicitDefEqProofs (disch := first | omega | (simp only [List.length_append, List.length_cons, List.length_nil, List.length_take, List.length_drop]; omega)) only [hs, mS, Int.natCast_zero, ↓aPre, aPost, oneW, allOne, retV, retVA, simprocAttr]
    rintro s2 ⟨k, hk, hs2⟩
    have hmb := mS_b 9999 k
    by_cases hk2 : k < 11
    · have hdk := dys_b 9999 (k + 1 : Nat)
      have hg := daysL_get 9999 k (by omega)
      have hl : (daysL 9999).length = 12 := rfl
      have e1 : ((k : Int) + 1 - 1).toNat = k := by omega
      rw [Int.natCast_add, Int.natCast_one] at hdk hg
      simp -dsimp -implicitDefEqProofs (disch := first | omega | (simp only [List.length_append, List.length_cons, List.length_nil, List.length_take, List.length_drop]; omega)) only [hs2, ↓aPre, aPost, oneW, allOne, retV, retVA, simprocAttr]
      refine call_giv (rdays_giv 9999 (by decide)) ?_
      simp -dsimp -implicitDefEqProofs (disch := first | omega | (simp only [List.length_append, List.length_cons, List.length_nil, List.length_take, List.length_drop]; omega)) only [hs2, hl, e1, hg, ↓aPre, aPost, oneW, allOne, retV, retVA, simprocAttr]
      refine round_of ⟨k + 1, by omega, ?_⟩ ?_
      · simp -dsimp -implicitDefEqProofs (disch := first | omega | (simp only [List.length_append, List.length_cons, List.length_nil, List.length_take, List.length_drop]; omega)) only [hs2, hl, e1, hg, mS, Int.add_assoc, ↓aPre, aPost, oneW, allOne, retV, retVA, simprocAttr]
      · simp -dsimp -implicitDefEqProofs (disch := first | omega | (simp only [List.length_append, List.length_cons, List.length_nil, List.length_take, List.length_drop]; omega)) only [hs2, ↓aPre, aPost, oneW, allOne, retV, retVA, simprocAttr]
        omega
    · obtain rfl : k = 11 := by omega
      have hm11 : mS 9999 11 = 334 := by decide +kernel
      rw [hm11] at hs2
      simp -dsimp -implicitDefEqProofs (disch := first | omega | (simp only [List.length_append, List.length_cons, List.length_nil, List.length_take, List.length_drop]; omega)) only [hs2, ↓aPre, aPost, oneW, allOne, retV, retVA, simprocAttr]
      exact post_eq rfl
end Go.Proofs.YtfighiceodplnaaDoor
