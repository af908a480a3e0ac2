/- Years, months, days; numbers of times. No condition but what each says. -/
import Derived.Test.YtfighiceodplnaaDoorWF
set_option linter.unusedSimpArgs false
set_option linter.unusedVariables false
set_option maxRecDepth 8000
set_option maxHeartbeats 4000000
namespace Go.Proofs.YtfighiceodplnaaDoor
open Go.Eng Go.RowKit
def leapP (y : Int) : Prop := (y % 4 = 0 ∧ ¬ y % 100 = 0) ∨ y % 400 = 0
instance (y : Int) : Decidable (leapP y) := by unfold leapP; infer_instance
theorem leap_giv (y : Int) (h : 0 ≤ y) : Giv Tryd.prog 21 [.c (.int .i64 y)] (retV [.c (.bool (decide (leapP y)))]) := by
  refine Giv.of mixed c21 (Nat.le_of_ble_eq_true rfl) ?_
  by_cases h4 : y % 4 = 0
  · by_cases h1 : y % 100 = 0
    · simp -dsimp -implicitDefEqProofs (disch := first | omega | (simp only [List.length_append, List.length_cons, List.length_nil, List.length_take, List.length_drop]; omega)) only [a21, h4, h1, ↓aPre, aPost, oneW, allOne, retV, retVA, simprocAttr]
      refine post_eq ?_
      rw [show decide (leapP y) = decide (y % 400 = 0) by rw [decide_eq_decide]; unfold leapP; omega]
    · simp -dsimp -implicitDefEqProofs (disch := first | omega | (simp only [List.length_append, List.length_cons, List.length_nil, List.length_take, List.length_drop]; omega)) only [a21, h4, h1, ↓aPre, aPost, oneW, allOne, retV, retVA, simprocAttr]
      refine post_eq ?_
      rw [decide_eq_true (show leapP y from .inl ⟨h4, h1⟩)]
  · simp -dsimp -implicitDefEqProofs (disch := first | omega | (simp only [List.length_append, List.length_cons, List.length_nil, List.length_take, List.length_drop]; omega)) only [a21, h4, ↓aPre, aPost, oneW, allOne, retV, retVA, simprocAttr]
    refine post_eq ?_
    rw [decide_eq_false (show ¬ leapP y by unfold leapP; omega)]
def feb (y : Int) : Int := if leapP y then 29 else 28
def dys (y m : Int) : Int := if m = 4 ∨ m = 6 ∨ m = 9 ∨ m = 11 then 30 else if m = 2 then feb y else 31
theorem feb_b (y : Int) : feb y = 28 ∨ feb y = 29 := by unfold feb; split <;> simp
theorem dys_b (y m : Int) : 28 ≤ dys y m ∧ dys y m ≤ 31 := by
  have := feb_b y
  unfold dys
  split
  · omega
  · split <;> omega
theorem days_giv (y m : Int) (h : 0 ≤ y) : Giv Tryd.prog 19 [.c (.int .i64 y), .c (.int .i64 m)] (retV [.c (.int .i64 (dys y m))]) := by
  refine Giv.of mixed c19 (Nat.le_of_ble_eq_true rfl) ?_
  by_cases h4 : m = 4
  · subst h4
    simp -dsimp -implicitDefEqProofs (disch := first | omega | (simp only [List.length_append, List.length_cons, List.length_nil, List.length_take, List.length_drop]; omega)) only [a19, ↓aPre, aPost, oneW, allOne, retV, retVA, simprocAttr]
    exact post_eq rfl
  by_cases h6 : m = 6
  · subst h6
    simp -dsimp -implicitDefEqProofs (disch := first | omega | (simp only [List.length_append, List.length_cons, List.length_nil, List.length_take, List.length_drop]; omega)) only [a19, ↓aPre, aPost, oneW, allOne, retV, retVA, simprocAttr]
    exact post_eq rfl
  by_cases h9 : m = 9
  · subst h9
    simp -dsimp -implicitDefEqProofs (disch := first | omega | (simp only [List.length_append, List.length_cons, List.length_nil, List.length_take, List.length_drop]; omega)) only [a19, ↓aPre, aPost, oneW, allOne, retV, retVA, simprocAttr]
    exact post_eq rfl
  by_cases h11 : m = 11
  · subst h11
    simp -dsimp -implicitDefEqProofs (disch := first | omega | (simp only [List.length_append, List.length_cons, List.length_nil, List.length_take, List.length_drop]; omega)) only [a19, ↓aPre, aPost, oneW, allOne, retV, retVA, simprocAttr]
    exact post_eq rfl
  by_cases h2 : m = 2
  · subst h2
    simp -dsimp -implicitDefEqProofs (disch := first | omega | (simp only [List.length_append, List.length_cons, List.length_nil, List.length_take, List.length_drop]; omega)) only [a19, ↓aPre, aPost, oneW, allOne, retV, retVA, simprocAttr]
    refine call_giv (leap_giv y h) ?_
    by_cases hl : leapP y
    · simp -dsimp -implicitDefEqProofs (disch := first | omega | (simp only [List.length_append, List.length_cons, List.length_nil, List.length_take, List.length_drop]; omega)) only [hl, ↓aPre, aPost, oneW, allOne, retV, retVA, simprocAttr]
      refine post_eq ?_
      rw [show dys y 2 = 29 by rw [dys, if_neg (by decide), if_pos rfl, feb, if_pos hl]]
    · simp -dsimp -implicitDefEqProofs (disch := first | omega | (simp only [List.length_append, List.length_cons, List.length_nil, List.length_take, List.length_drop]; omega)) only [hl, ↓aPre, aPost, oneW, allOne, retV, retVA, simprocAttr]
      refine post_eq ?_
      rw [show dys y 2 = 28 by rw [dys, if_neg (by decide), if_pos rfl, feb, if_neg hl]]
  · simp -dsimp -implicitDefEqProofs (disch := first | omega | (simp only [List.length_append, List.length_cons, List.length_nil, List.length_take, List.length_drop]; omega)) only [a19, ibeq_f h4, ibeq_f h6, ibeq_f h9, ibeq_f h11, ibeq_f h2, h4, h6, h9, h11, h2, ↓aPre, aPost, oneW, allOne, retV, retVA, simprocAttr]
    refine post_eq ?_
    rw [show dys y m = 31 by rw [dys, if_neg (by omega), if_neg h2]]
/-- days ahead of a year -/
def yS : Nat → Int
  | 0 => 0
  | y + 1 => yS y + 337 + feb y
/-- days of the first months of a year -/
def mS (y : Int) : Nat → Int
  | 0 => 0
  | m + 1 => mS y m + dys y (m + 1 : Nat)
theorem mS_12 (y : Int) : mS y 12 = 337 + feb y := by
  simp only [mS, dys]
  simp
  omega
theorem mS_b (y : Int) : ∀ m, 28 * m ≤ mS y m ∧ mS y m ≤ 31 * m
  | 0 => by simp [mS]
  | m + 1 => by
    have := mS_b y m
    have := dys_b y (m + 1 : Nat)
    rw [mS]; omega
theorem yS_b : ∀ y : Nat, 365 * (y : Int) ≤ yS y ∧ yS y ≤ 366 * (y : Int)
  | 0 => by simp [yS]
  | y + 1 => by
    have := yS_b y
    have := feb_b y
    rw [yS]; omega
def leaps (y : Int) : Int := (y - 1) / 4 - (y - 1) / 100 + (y - 1) / 400 + 1
theorem yS_pos : ∀ y : Nat, yS (y + 1) = 365 * ((y + 1 : Nat) : Int) + leaps ((y + 1 : Nat) : Int)
  | 0 => by decide +kernel
  | y + 1 => by
    rw [yS, yS_pos y]
    unfold leaps feb
    by_cases h : leapP ((y + 1 : Nat) : Int)
    · rw [if_pos h]
      unfold leapP at h
      omega
    · rw [if_neg h]
      unfold leapP at h
      omega
def tD (y m d h mi s : Int) : D := .agg [.c (.int .i64 y), .c (.int .i64 m), .c (.int .i64 d), .c (.int .i64 h), .c (.int .i64 mi), .c (.int .i64 s)]
theorem right_t (y m d h mi s : Int) (hy : 0 ≤ y ∧ y ≤ 9999) (hm : 1 ≤ m ∧ m ≤ 12) (hd : 1 ≤ d ∧ d ≤ dys y m) (hh : 0 ≤ h ∧ h ≤ 23) (hmi : 0 ≤ mi ∧ mi ≤ 59) (hs : 0 ≤ s ∧ s ≤ 59) : Giv Tryd.prog 12 [tD y m d h mi s] (retV [.c (.bool true)]) := by
  refine Giv.of mixed c12 (Nat.le_of_ble_eq_true rfl) ?_
  simp -dsimp -implicitDefEqProofs (disch := first | omega | (simp only [List.length_append, List.length_cons, List.length_nil, List.length_take, List.length_drop]; omega)) only [a12, tD, ↓aPre, aPost, oneW, allOne, retV, retVA, simprocAttr]
  refine call_giv (days_giv y m hy.1) ?_
  simp -dsimp -implicitDefEqProofs (disch := first | omega | (simp only [List.length_append, List.length_cons, List.length_nil, List.length_take, List.length_drop]; omega)) only [↓aPre, aPost, oneW, allOne, retV, retVA, simprocAttr]
  exact post_eq rfl
def num (y m : Nat) (d h mi s : Int) : Int := (((yS y + mS y (m - 1) + (d - 1)) * 24 + h) * 60 + mi) * 60 + s
theorem number_t (y m : Nat) (d h mi s : Int) (hy : y ≤ 9999) (hm : 1 ≤ m ∧ m ≤ 12) (hd : 1 ≤ d ∧ d ≤ dys y m) (hh : 0 ≤ h ∧ h ≤ 23) (hmi : 0 ≤ mi ∧ mi ≤ 59) (hs : 0 ≤ s ∧ s ≤ 59) : Giv Tryd.prog 10 [tD y m d h mi s] (retV [.c (.int .i64 (num y m d h mi s)), .c (.int .i64 0)]) := by
  refine Giv.of mixed c10 (Nat.le_of_ble_eq_true rfl) ?_
  have hyb := yS_b y
  have hr := right_t y m d h mi s (by omega) (by omega) hd hh hmi hs
  have hdb := dys_b y m
  simp -dsimp -implicitDefEqProofs (disch := first | omega | (simp only [List.length_append, List.length_cons, List.length_nil, List.length_take, List.length_drop]; omega)) only [a10, tD, ↓aPre, aPost, oneW, allOne, retV, retVA, simprocAttr]
  refine call_giv hr ?_
  rcases Nat.eq_zero_or_pos y with hy0 | hy0
  · subst hy0
    simp -dsimp -implicitDefEqProofs (disch := first | omega | (simp only [List.length_append, List.length_cons, List.length_nil, List.length_take, List.length_drop]; omega)) only [↓aPre, aPost, oneW, allOne, retV, retVA, simprocAttr]
    refine loop_of (fun s' => ∃ (k : Nat), k + 1 ≤ m ∧ s'.tm 6 = .d (.c (.int .i64 (k + 1 : Nat))) ∧ s'.tm 4 = .d (.c (.int .i64 0)) ∧ s'.tm 5 = .d (.c (.int .i64 (mS 0 k))) ∧ s'.tm 1 = .ptr 1 0 ∧ s'.hp 1 = some (.box [.d (.c (.int .i64 0)), .d (.c (.int .i64 m)), .d (.c (.int .i64 d)), .d (.c (.int .i64 h)), .d (.c (.int .i64 mi)), .d (.c (.int .i64 s))])) (fun s' => m - (avN (s'.tm 6)).toNat) ?_ ?_
    · refine ⟨0, by omega, ?_⟩
      simp -dsimp -implicitDefEqProofs (disch := first | omega | (simp only [List.length_append, List.length_cons, List.length_nil, List.length_take, List.length_drop]; omega)) only [mS, Int.natCast_zero, ↓aPre, aPost, oneW, allOne, retV, retVA, simprocAttr]
    rintro s' ⟨k, hk, hs'⟩
    have hmb := mS_b 0 k
    by_cases hlt : k + 1 < m
    · have hdk := dys_b 0 (k + 1 : Nat)
      have hdg := days_giv 0 (k + 1 : Nat) (by decide)
      rw [Int.natCast_add, Int.natCast_one] at hdk hdg
      simp -dsimp -implicitDefEqProofs (disch := first | omega | (simp only [List.length_append, List.length_cons, List.length_nil, List.length_take, List.length_drop]; omega)) only [hs', ↓aPre, aPost, oneW, allOne, retV, retVA, simprocAttr]
      refine call_giv hdg ?_
      simp -dsimp -implicitDefEqProofs (disch := first | omega | (simp only [List.length_append, List.length_cons, List.length_nil, List.length_take, List.length_drop]; omega)) only [hs', ↓aPre, aPost, oneW, allOne, retV, retVA, simprocAttr]
      refine round_of ⟨k + 1, by omega, ?_⟩ ?_
      · simp -dsimp -implicitDefEqProofs (disch := first | omega | (simp only [List.length_append, List.length_cons, List.length_nil, List.length_take, List.length_drop]; omega)) only [hs', mS, ↓aPre, aPost, oneW, allOne, retV, retVA, simprocAttr]
      · simp -dsimp -implicitDefEqProofs (disch := first | omega | (simp only [List.length_append, List.length_cons, List.length_nil, List.length_take, List.length_drop]; omega)) only [hs', ↓aPre, aPost, oneW, allOne, retV, retVA, simprocAttr]
        omega
    · obtain rfl : m = k + 1 := by omega
      simp -dsimp -implicitDefEqProofs (disch := first | omega | (simp only [List.length_append, List.length_cons, List.length_nil, List.length_take, List.length_drop]; omega)) only [hs', ↓aPre, aPost, oneW, allOne, retV, retVA, simprocAttr]
      refine post_eq ?_
      rw [num, Nat.add_sub_cancel, yS, Int.zero_add]
      rfl
  · obtain ⟨u, rfl⟩ : ∃ u, y = u + 1 := ⟨y - 1, by omega⟩
    have hyp := yS_pos u
    obtain ⟨Y, hY⟩ : ∃ Y : Nat, Y = u + 1 := ⟨_, rfl⟩
    rw [← hY] at hyp hyb hy hd hdb hr hy0 ⊢
    have hY1 : 1 ≤ Y := by omega
    have hlp : 365 * (Y : Int) + (((((Y : Int) - 1) / 4 - ((Y : Int) - 1) / 100) + ((Y : Int) - 1) / 400) + 1) = yS Y := hyp.symm
    simp -dsimp -implicitDefEqProofs (disch := first | omega | (simp only [List.length_append, List.length_cons, List.length_nil, List.length_take, List.length_drop]; omega)) only [hlp, ↓aPre, aPost, oneW, allOne, retV, retVA, simprocAttr]
    refine loop_of (fun s' => ∃ (k : Nat), k + 1 ≤ m ∧ s'.tm 6 = .d (.c (.int .i64 (k + 1 : Nat))) ∧ s'.tm 4 = .d (.c (.int .i64 Y)) ∧ s'.tm 5 = .d (.c (.int .i64 (yS Y + mS Y k))) ∧ s'.tm 1 = .ptr 1 0 ∧ s'.hp 1 = some (.box [.d (.c (.int .i64 Y)), .d (.c (.int .i64 m)), .d (.c (.int .i64 d)), .d (.c (.int .i64 h)), .d (.c (.int .i64 mi)), .d (.c (.int .i64 s))])) (fun s' => m - (avN (s'.tm 6)).toNat) ?_ ?_
    · refine ⟨0, by omega, ?_⟩
      simp -dsimp -implicitDefEqProofs (disch := first | omega | (simp only [List.length_append, List.length_cons, List.length_nil, List.length_take, List.length_drop]; omega)) only [hlp, mS, Int.natCast_zero, ↓aPre, aPost, oneW, allOne, retV, retVA, simprocAttr]
    rintro s' ⟨k, hk, hs'⟩
    have hmb := mS_b Y k
    by_cases hlt : k + 1 < m
    · have hdk := dys_b Y (k + 1 : Nat)
      have hdg := days_giv Y (k + 1 : Nat) (by omega)
      rw [Int.natCast_add, Int.natCast_one] at hdk hdg
      simp -dsimp -implicitDefEqProofs (disch := first | omega | (simp only [List.length_append, List.length_cons, List.length_nil, List.length_take, List.length_drop]; omega)) only [hs', ↓aPre, aPost, oneW, allOne, retV, retVA, simprocAttr]
      refine call_giv hdg ?_
      simp -dsimp -implicitDefEqProofs (disch := first | omega | (simp only [List.length_append, List.length_cons, List.length_nil, List.length_take, List.length_drop]; omega)) only [hs', ↓aPre, aPost, oneW, allOne, retV, retVA, simprocAttr]
      refine round_of ⟨k + 1, by omega, ?_⟩ ?_
      · simp -dsimp -implicitDefEqProofs (disch := first | omega | (simp only [List.length_append, List.length_cons, List.length_nil, List.length_take, List.length_drop]; omega)) only [hs', mS, Int.add_assoc, ↓aPre, aPost, oneW, allOne, retV, retVA, simprocAttr]
      · simp -dsimp -implicitDefEqProofs (disch := first | omega | (simp only [List.length_append, List.length_cons, List.length_nil, List.length_take, List.length_drop]; omega)) only [hs', ↓aPre, aPost, oneW, allOne, retV, retVA, simprocAttr]
        omega
    · obtain rfl : m = k + 1 := by omega
      simp -dsimp -implicitDefEqProofs (disch := first | omega | (simp only [List.length_append, List.length_cons, List.length_nil, List.length_take, List.length_drop]; omega)) only [hs', ↓aPre, aPost, oneW, allOne, retV, retVA, simprocAttr]
      refine post_eq ?_
      rw [num, Nat.add_sub_cancel]
/-- day D is in month m of year y -/
structure dateP (D : Int) (y m : Nat) : Prop where
  y1 : yS y ≤ D
  y2 : D < yS (y + 1)
  m1 : 1 ≤ m
  m2 : m ≤ 12
  d1 : mS y (m - 1) ≤ D - yS y
  d2 : D - yS y < mS y m
theorem yS_mono {a b : Nat} (h : a ≤ b) : yS a ≤ yS b := by
  induction b with
  | zero => rw [show a = 0 by omega]; exact Int.le_refl _
  | succ b ih =>
    by_cases c : a ≤ b
    · have := ih c
      have := feb_b b
      rw [yS]; omega
    · rw [show a = b + 1 by omega]; exact Int.le_refl _
theorem mS_mono (y : Int) {a b : Nat} (h : a ≤ b) : mS y a ≤ mS y b := by
  induction b with
  | zero => rw [show a = 0 by omega]; exact Int.le_refl _
  | succ b ih =>
    by_cases c : a ≤ b
    · have := ih c
      have := dys_b y (b + 1 : Nat)
      rw [mS]; omega
    · rw [show a = b + 1 by omega]; exact Int.le_refl _
theorem year_one {D : Int} {y y' : Nat} (h1 : yS y ≤ D) (h2 : D < yS (y + 1)) (k1 : yS y' ≤ D) (k2 : D < yS (y' + 1)) : y = y' := by
  rcases Nat.lt_trichotomy y y' with h | h | h
  · have := yS_mono (show y + 1 ≤ y' by omega); omega
  · exact h
  · have := yS_mono (show y' + 1 ≤ y by omega); omega
theorem month_one {y r : Int} {m m' : Nat} (hm : 1 ≤ m) (hm' : 1 ≤ m') (h1 : mS y (m - 1) ≤ r) (h2 : r < mS y m) (k1 : mS y (m' - 1) ≤ r) (k2 : r < mS y m') : m = m' := by
  rcases Nat.lt_trichotomy m m' with h | h | h
  · have := mS_mono y (show m ≤ m' - 1 by omega); omega
  · exact h
  · have := mS_mono y (show m' ≤ m - 1 by omega); omega
theorem date_one {D : Int} {y m y' m' : Nat} (h : dateP D y m) (k : dateP D y' m') : y = y' ∧ m = m' := by
  obtain rfl := year_one h.y1 h.y2 k.y1 k.y2
  exact ⟨rfl, month_one h.m1 k.m1 h.d1 h.d2 k.d1 k.d2⟩
theorem year_ex : ∀ D : Nat, ∃ y, yS y ≤ D ∧ (D : Int) < yS (y + 1)
  | 0 => ⟨0, by decide +kernel⟩
  | D + 1 => by
    obtain ⟨y, h1, h2⟩ := year_ex D
    by_cases c : ((D + 1 : Nat) : Int) < yS (y + 1)
    · exact ⟨y, by omega, c⟩
    · refine ⟨y + 1, by omega, ?_⟩
      have := feb_b (y + 1 : Nat)
      rw [yS]; omega
theorem month_ex (y r : Int) (h0 : 0 ≤ r) : ∀ k, r < mS y k → ∃ m, 1 ≤ m ∧ m ≤ k ∧ mS y (m - 1) ≤ r ∧ r < mS y m
  | 0, h => by rw [mS] at h; omega
  | k + 1, h => by
    by_cases c : r < mS y k
    · obtain ⟨m, h1, h2, h3⟩ := month_ex y r h0 k c
      exact ⟨m, h1, by omega, h3⟩
    · exact ⟨k + 1, by omega, Nat.le_refl _, by rw [Nat.add_sub_cancel]; omega, h⟩
theorem date_ex (D : Nat) : ∃ y m, dateP D y m := by
  obtain ⟨y, h1, h2⟩ := year_ex D
  have h12 := mS_12 y
  obtain ⟨m, k1, k2, k3, k4⟩ := month_ex y (D - yS y) (by omega) 12 (by rw [yS] at h2; omega)
  exact ⟨y, m, h1, h2, k1, k2, k3, k4⟩
end Go.Proofs.YtfighiceodplnaaDoor
