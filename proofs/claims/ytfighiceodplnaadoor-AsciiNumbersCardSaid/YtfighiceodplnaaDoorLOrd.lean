/- Times in their order, and their numbers. No condition but what each says. -/
import Derived.Test.YtfighiceodplnaaDoorLLaws
set_option linter.unusedSimpArgs false
set_option linter.unusedVariables false
set_option maxRecDepth 8000
set_option maxHeartbeats 4000000
namespace Go.Proofs.YtfighiceodplnaaDoor
open Go.Eng Go.RowKit
theorem date_day {D : Int} {y m : Nat} (h : dateP D y m) : 1 ≤ 1 + (D - yS y - mS y (m - 1)) ∧ 1 + (D - yS y - mS y (m - 1)) ≤ dys y m := by
  obtain ⟨k, rfl⟩ : ∃ k, m = k + 1 := ⟨m - 1, by have := h.m1; omega⟩
  have h1 := h.d1
  have h2 := h.d2
  rw [Nat.add_sub_cancel] at h1 ⊢
  rw [mS] at h2
  omega
theorem date_year {D : Int} {y m : Nat} (h : dateP D y m) (hD : D ≤ 3652424) : y ≤ 9999 := by
  rcases Nat.lt_or_ge 9999 y with h9 | h9
  · have := yS_mono (show 10000 ≤ y by omega)
    have hy : yS 10000 = 3652425 := by rw [yS_pos 9999]; decide +kernel
    have := h.y1
    omega
  · exact h9
/-- the day of a time, from the beginning of the year 0 -/
def dayN (y m d : Nat) : Int := yS y + mS y (m - 1) + ((d : Int) - 1)
theorem num_day (y m d h mi s : Nat) : num y m d h mi s = ((dayN y m d * 24 + h) * 60 + mi) * 60 + s := rfl
theorem day_in {y m d : Nat} (hm : 1 ≤ m ∧ m ≤ 12) (hd : 1 ≤ (d : Int) ∧ (d : Int) ≤ dys y m) : dateP (dayN y m d) y m := by
  obtain ⟨k, rfl⟩ : ∃ k, m = k + 1 := ⟨m - 1, by omega⟩
  have h1 : mS y (k + 1) = mS y k + dys y (k + 1 : Nat) := rfl
  have h2 := mS_mono (y : Int) (show k + 1 ≤ 12 by omega)
  have h3 := mS_12 y
  have h4 : yS (y + 1) = yS y + 337 + feb y := rfl
  have h5 := mS_b y k
  unfold dayN
  refine ⟨?_, ?_, by omega, by omega, ?_, ?_⟩
  all_goals
    try rw [Nat.add_sub_cancel]
    omega
theorem day_lt {y m d y' m' d' : Nat} (hm : 1 ≤ m ∧ m ≤ 12) (hd : 1 ≤ (d : Int) ∧ (d : Int) ≤ dys y m) (hm' : 1 ≤ m' ∧ m' ≤ 12) (hd' : 1 ≤ (d' : Int) ∧ (d' : Int) ≤ dys y' m')
    (k : y < y' ∨ (y = y' ∧ (m < m' ∨ (m = m' ∧ d < d')))) : dayN y m d < dayN y' m' d' := by
  have p := day_in hm hd
  have q := day_in hm' hd'
  rcases k with k | ⟨rfl, k | ⟨rfl, k⟩⟩
  · have := yS_mono (show y + 1 ≤ y' by omega)
    have := p.y2
    have := q.y1
    omega
  · have := mS_mono (y : Int) (show m ≤ m' - 1 by omega)
    have := p.d2
    have := q.d1
    omega
  · unfold dayN; omega
theorem time_lt {y m d h mi s y' m' d' h' mi' s' : Nat} (hr : rightP y m d h mi s) (hr' : rightP y' m' d' h' mi' s') (k : num y m d h mi s < num y' m' d' h' mi' s') :
    y < y' ∨ (y = y' ∧ (m < m' ∨ (m = m' ∧ (d < d' ∨ (d = d' ∧ (h < h' ∨ (h = h' ∧ (mi < mi' ∨ (mi = mi' ∧ s < s'))))))))) := by
  obtain ⟨r1, r2, r3, r4, r5, r6⟩ := hr
  obtain ⟨q1, q2, q3, q4, q5, q6⟩ := hr'
  rw [num_day, num_day] at k
  by_cases c : y' < y ∨ (y' = y ∧ (m' < m ∨ (m' = m ∧ d' < d)))
  · have := day_lt (by omega) q3 (by omega) r3 c
    omega
  by_cases c2 : y < y' ∨ (y = y' ∧ (m < m' ∨ (m = m' ∧ d < d')))
  · omega
  · obtain ⟨rfl, rfl, rfl⟩ : y = y' ∧ m = m' ∧ d = d' := by omega
    omega
theorem num_of {y m d h mi s : Nat} (hr : rightP y m d h mi s) : 0 ≤ num y m d h mi s ∧ num y m d h mi s ≤ lastN ∧ dateP (num y m d h mi s / 86400) y m ∧
    1 + (num y m d h mi s / 86400 - yS y - mS y (m - 1)) = (d : Int) ∧ num y m d h mi s / 3600 % 24 = (h : Int) ∧ num y m d h mi s / 60 % 60 = (mi : Int) ∧ num y m d h mi s % 60 = (s : Int) := by
  obtain ⟨r1, r2, r3, r4, r5, r6⟩ := hr
  have hp := day_in (y := y) (m := m) (d := d) (by omega) r3
  have hy := yS_mono (show y + 1 ≤ 10000 by omega)
  have hy9 : yS 10000 = 3652425 := by rw [yS_pos 9999]; decide +kernel
  have h0 := hp.y1
  have h1 := hp.y2
  have hb := yS_b y
  have hln : lastN = 315569519999 := rfl
  rw [num_day]
  obtain ⟨D, hD⟩ : ∃ D, D = dayN y m d := ⟨_, rfl⟩
  have hDe : 1 + (D - yS y - mS y (m - 1)) = (d : Int) := by rw [hD]; unfold dayN; omega
  rw [← hD] at hp h0 h1 ⊢
  have e1 : (((D * 24 + h) * 60 + mi) * 60 + s) / 86400 = D := by omega
  rw [e1]
  exact ⟨by omega, by omega, hp, hDe, by omega, by omega, by omega⟩
theorem last_num : num 9999 12 (31 : Nat) (23 : Nat) (59 : Nat) (59 : Nat) = lastN := by
  rw [num_day]
  unfold dayN
  rw [yS_pos 9998]
  decide +kernel
theorem num_last {y m d h mi s : Nat} (hr : rightP y m d h mi s) : num y m d h mi s = lastN ↔ (y = 9999 ∧ m = 12 ∧ d = 31 ∧ h = 23 ∧ mi = 59 ∧ s = 59) := by
  constructor
  · intro e
    have hl : rightP (9999 : Nat) (12 : Nat) (31 : Nat) (23 : Nat) (59 : Nat) (59 : Nat) := by decide +kernel
    obtain ⟨a1, a2, a3, a4, a5, a6, a7⟩ := num_of hr
    obtain ⟨b1, b2, b3, b4, b5, b6, b7⟩ := num_of hl
    rw [last_num, ← e] at b3 b4 b5 b6 b7
    obtain ⟨rfl, rfl⟩ := date_one a3 b3
    refine ⟨rfl, rfl, ?_⟩
    omega
  · rintro ⟨rfl, rfl, rfl, rfl, rfl, rfl⟩
    exact last_num
end Go.Proofs.YtfighiceodplnaaDoor
