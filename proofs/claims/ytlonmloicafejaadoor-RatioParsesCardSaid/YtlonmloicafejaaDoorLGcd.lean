/- Fractions in the least numbers. No condition but what each says. -/
set_option linter.unusedSimpArgs false
set_option linter.unusedVariables false
namespace Go.Proofs.YtlonmloicafejaaDoor
def redS (n d : Nat) : Nat × Nat := if Nat.gcd n d = 0 then (n, d) else (n / Nat.gcd n d, d / Nat.gcd n d)
theorem red_mul (n d : Nat) : ∃ g, n = g * (redS n d).1 ∧ d = g * (redS n d).2 ∧ (Nat.gcd n d ≠ 0 → 0 < g) := by
  unfold redS
  by_cases h : Nat.gcd n d = 0
  · rw [if_pos h]
    exact ⟨1, by simp, by simp, fun c => absurd h c⟩
  · rw [if_neg h]
    exact ⟨Nat.gcd n d, (Nat.mul_div_cancel' (Nat.gcd_dvd_left n d)).symm, (Nat.mul_div_cancel' (Nat.gcd_dvd_right n d)).symm, fun _ => Nat.pos_of_ne_zero h⟩
theorem red_cop {n d : Nat} (h : Nat.gcd n d ≠ 0) : Nat.gcd (redS n d).1 (redS n d).2 = 1 := by
  unfold redS
  rw [if_neg h]
  rw [Nat.gcd_div (Nat.gcd_dvd_left n d) (Nat.gcd_dvd_right n d), Nat.div_self (Nat.pos_of_ne_zero h)]
theorem red_red (n d : Nat) : redS (redS n d).1 (redS n d).2 = redS n d := by
  by_cases h : Nat.gcd n d = 0
  · have e : redS n d = (n, d) := by unfold redS; rw [if_pos h]
    rw [e]
    exact e
  · have hc := red_cop h
    rw [redS, hc, if_neg (by decide), Nat.div_one, Nat.div_one]
theorem red_le (n d : Nat) : (redS n d).1 ≤ n ∧ (redS n d).2 ≤ d := by
  unfold redS
  split
  · exact ⟨Nat.le_refl _, Nat.le_refl _⟩
  · exact ⟨Nat.div_le_self _ _, Nat.div_le_self _ _⟩
theorem gcd_pos_r {n d : Nat} (h : 0 < d) : Nat.gcd n d ≠ 0 := fun c => by
  have := Nat.gcd_pos_of_pos_right n h
  omega
theorem red_d {n d : Nat} (h : 0 < d) : 0 < (redS n d).2 := by
  obtain ⟨g, h1, h2, h3⟩ := red_mul n d
  refine Nat.pos_of_ne_zero fun c => ?_
  rw [c, Nat.mul_zero] at h2
  omega
/-- as much as it was -/
theorem red_same (n d : Nat) : n * (redS n d).2 = (redS n d).1 * d := by
  obtain ⟨g, h1, h2, h3⟩ := red_mul n d
  obtain ⟨x, hx⟩ : ∃ x, x = (redS n d).1 := ⟨_, rfl⟩
  obtain ⟨y, hy⟩ : ∃ y, y = (redS n d).2 := ⟨_, rfl⟩
  rw [← hx] at h1 ⊢
  rw [← hy] at h2 ⊢
  rw [h1, h2, Nat.mul_comm g x, Nat.mul_assoc]
/-- two that are reduced compare as they did -/
theorem red_cmp {n d m e : Nat} (hd : 0 < d) (he : 0 < e) : ∃ k, 0 < k ∧ n * e = k * ((redS n d).1 * (redS m e).2) ∧ m * d = k * ((redS m e).1 * (redS n d).2) := by
  obtain ⟨g, h1, h2, h3⟩ := red_mul n d
  obtain ⟨f, k1, k2, k3⟩ := red_mul m e
  have hg := h3 (gcd_pos_r hd)
  have hf := k3 (gcd_pos_r he)
  obtain ⟨x, hx⟩ : ∃ x, x = (redS n d).1 := ⟨_, rfl⟩
  obtain ⟨y, hy⟩ : ∃ y, y = (redS n d).2 := ⟨_, rfl⟩
  obtain ⟨u, hu⟩ : ∃ u, u = (redS m e).1 := ⟨_, rfl⟩
  obtain ⟨v, hv⟩ : ∃ v, v = (redS m e).2 := ⟨_, rfl⟩
  rw [← hx] at h1 ⊢
  rw [← hy] at h2 ⊢
  rw [← hu] at k1 ⊢
  rw [← hv] at k2 ⊢
  refine ⟨g * f, Nat.mul_pos hg hf, ?_, ?_⟩
  · rw [h1, k2, Nat.mul_mul_mul_comm]
  · rw [k1, h2, Nat.mul_mul_mul_comm, Nat.mul_comm f g]
/-- as much, if and only if the least numbers are the same -/
theorem red_eq {n d m e : Nat} (hd : 0 < d) (he : 0 < e) : n * e = m * d ↔ redS n d = redS m e := by
  constructor
  · intro h
    obtain ⟨k, hk, h1, h2⟩ := red_cmp (n := n) (m := m) hd he
    have c1 := red_cop (gcd_pos_r (n := n) hd)
    have c2 := red_cop (gcd_pos_r (n := m) he)
    have p1 := red_d (n := n) hd
    have p2 := red_d (n := m) he
    have h3 : (redS n d).1 * (redS m e).2 = (redS m e).1 * (redS n d).2 := Nat.eq_of_mul_eq_mul_left hk (by rw [← h1, ← h2, h])
    obtain ⟨⟨x, y⟩, hxy⟩ : ∃ p, p = redS n d := ⟨_, rfl⟩
    obtain ⟨⟨u, v⟩, huv⟩ : ∃ p, p = redS m e := ⟨_, rfl⟩
    rw [← hxy] at h3 c1 p1 ⊢
    rw [← huv] at h3 c2 p2 ⊢
    dsimp only at h3 c1 c2 p1 p2
    have d1 : y ∣ v := Nat.Coprime.dvd_of_dvd_mul_left (k := y) (m := x) (n := v) (Nat.Coprime.symm c1) (by rw [h3]; exact Nat.dvd_mul_left y u)
    have d2 : v ∣ y := Nat.Coprime.dvd_of_dvd_mul_left (k := v) (m := u) (n := y) (Nat.Coprime.symm c2) (by rw [← h3]; exact Nat.dvd_mul_left v x)
    obtain rfl : y = v := Nat.dvd_antisymm d1 d2
    obtain rfl : x = u := Nat.eq_of_mul_eq_mul_right p1 h3
    rfl
  · intro h
    obtain ⟨k, hk, h1, h2⟩ := red_cmp (n := n) (m := m) hd he
    rw [h1, h2, h]
end Go.Proofs.YtlonmloicafejaaDoor
