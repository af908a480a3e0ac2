/- The fraction of a text. No condition but what each says. -/
import Derived.Test.YtlonmloicafejaaDoorWRNum
import Derived.Laws.RangeString
set_option linter.unusedSimpArgs false
set_option linter.unusedVariables false
set_option maxRecDepth 8000
set_option maxHeartbeats 4000000
namespace Go.Proofs.YtlonmloicafejaaDoor
open Go.Eng Go.RowKit
theorem str_g {l : List Int} (hb : Bytes l) {k : Nat} (hk : k < l.length) : (((strOfNums l).get! k).toNat : Int) = l.getD k 0 := by
  rw [← str_get hb hk]
  congr 2
  show (strOfNums l).data[k]! = _
  have h : k < (strOfNums l).data.size := by show k < (strOfNums l).size; rw [str_size]; exact hk
  rw [getElem!_pos _ k h]
  simp only [List.getD, Array.getElem?_toList, Array.getElem?_eq_getElem h, Option.getD_some]
theorem dec_lo {l : List Int} (hb : Bytes l) {k : Nat} (hk : k < l.length) (h : l.getD k 0 < 128) : Utf8.decode (strOfNums l) k = ((l.getD k 0).toNat, 1) := by
  have e := str_g hb hk
  obtain ⟨b, hbe⟩ : ∃ b, b = ((strOfNums l).get! k).toNat := ⟨_, rfl⟩
  rw [← hbe] at e
  unfold Utf8.decode
  simp only [Nat.add_zero, ← hbe]
  rw [if_pos (by omega)]
  rw [← e, Int.toNat_natCast]
theorem dec_hi {l : List Int} (hb : Bytes l) {k : Nat} (hk : k < l.length) (h : ¬ l.getD k 0 < 128) : 128 ≤ (Utf8.decode (strOfNums l) k).1 := by
  have e := str_g hb hk
  obtain ⟨b, hbe⟩ : ∃ b, b = ((strOfNums l).get! k).toNat := ⟨_, rfl⟩
  rw [← hbe] at e
  unfold Utf8.decode
  simp only [Nat.add_zero, ← hbe, Utf8.runeError]
  rw [if_neg (by omega)]
  split
  · split
    · rename_i h1; exact h1
    · show 128 ≤ 65533; omega
  · split
    · split
      · rename_i h1
        simp only [Bool.and_eq_true, decide_eq_true_eq] at h1
        exact Nat.le_trans (by omega) h1.1
      · show 128 ≤ 65533; omega
    · split
      · split
        · rename_i h1
          simp only [Bool.and_eq_true, decide_eq_true_eq] at h1
          exact Nat.le_trans (by omega) h1.1
        · show 128 ≤ 65533; omega
      · show 128 ≤ 65533; omega
theorem dec_max (s : ByteArray) (pos : Nat) : (Utf8.decode s pos).1 ≤ 1114111 := by
  have hb : ∀ k, (s.get! (pos + k)).toNat < 256 := fun k => (s.get! (pos + k)).toNat_lt
  have h0 := hb 0; have h1 := hb 1; have h2 := hb 2; have h3 := hb 3
  simp only [Utf8.decode]
  repeat' split
  all_goals simp_all [Utf8.runeError, Utf8.valid]
  all_goals omega
theorem dec_c {l : List Int} (hb : Bytes l) {k : Nat} (hk : k < l.length) : ∃ c m : Nat, Utf8.decode (strOfNums l) k = (c, m) ∧ c < 2147483648 ∧ ((48 ≤ l.getD k 0 ∧ l.getD k 0 ≤ 57) → (c : Int) = l.getD k 0 ∧ m = 1) ∧ (¬ (48 ≤ l.getD k 0 ∧ l.getD k 0 ≤ 57) → c < 48 ∨ 57 < c) := by
  have hz := hb.get k
  by_cases h : l.getD k 0 < 128
  · exact ⟨_, _, dec_lo hb hk h, by omega, fun _ => ⟨by omega, rfl⟩, fun _ => by omega⟩
  · have hm := dec_max (strOfNums l) k
    have hh := dec_hi hb hk h
    obtain ⟨x, hx⟩ : ∃ x, x = Utf8.decode (strOfNums l) k := ⟨_, rfl⟩
    rw [← hx] at hm hh ⊢
    exact ⟨x.1, x.2, rfl, by omega, fun c => by omega, fun _ => .inr (by omega)⟩
theorem parS_a {l : List Int} {n d : Nat} (h : pos l 47 < l.length) (h1 : numS (l.take (pos l 47)) = some n) (h2 : numS (bhd l 47) = some d) : parS l = (n, d, 0) := by
  unfold bhd at h2
  unfold parS
  rw [if_pos h, h1, h2]
theorem parS_b {l : List Int} (h : pos l 47 < l.length) (h1 : numS (l.take (pos l 47)) = none ∨ numS (bhd l 47) = none) : parS l = (0, 0, 3) := by
  unfold bhd at h1
  unfold parS
  rw [if_pos h]
  split
  · rename_i h2 h3
    rcases h1 with h1 | h1
    · rw [h1] at h2; cases h2
    · rw [h1] at h3; cases h3
  · rfl
theorem parS_c {l : List Int} (h : ¬ pos l 47 < l.length) (h1 : numS (l.take (pos l 46)) = none) : parS l = (0, 0, 3) := by
  unfold parS
  rw [if_neg h, h1]
theorem parS_d {l : List Int} {n : Nat} (h : ¬ pos l 47 < l.length) (h1 : numS (l.take (pos l 46)) = some n) (h2 : 9 < (bhd l 46).length ∨ (pos l 46 < l.length ∧ bhd l 46 = []) ∨ ¬ isD (bhd l 46)) : parS l = (0, 0, 3) := by
  unfold bhd at h2
  unfold parS
  rw [if_neg h, h1]
  simp only []
  rw [if_pos h2]
theorem parS_e {l : List Int} {n : Nat} (h : ¬ pos l 47 < l.length) (h1 : numS (l.take (pos l 46)) = some n) (h2 : ¬ (9 < (bhd l 46).length ∨ (pos l 46 < l.length ∧ bhd l 46 = []) ∨ ¬ isD (bhd l 46))) : parS l = fracS n (bhd l 46) := by
  unfold bhd at h2 ⊢
  unfold parS
  rw [if_neg h, h1]
  simp only []
  rw [if_neg h2]
theorem shr_le : ∀ (f n d : Nat), (shr f n d).1 ≤ n ∧ (shr f n d).2 ≤ d
  | 0, n, d => ⟨Nat.le_refl _, Nat.le_refl _⟩
  | f + 1, n, d => by
    rw [shr]
    split
    · have := shr_le f (n / 10) (d / 10)
      omega
    · exact ⟨Nat.le_refl _, Nat.le_refl _⟩
theorem isD_get {l : List Int} (h : isD l) {k : Nat} (hk : k < l.length) : 48 ≤ l.getD k 0 ∧ l.getD k 0 ≤ 57 := by
  simp only [List.getD, List.getElem?_eq_getElem hk, Option.getD_some]
  exact h _ (List.getElem_mem _)
/-- whole digits and nine digits behind the point, at most -/
theorem vf_b {l : List Int} {n k : Nat} (hn : n ≤ 4294967295) (hk : k ≤ l.length) (hl : l.length ≤ 9) (h : ∀ j, j < k → 48 ≤ l.getD j 0 ∧ l.getD j 0 ≤ 57) : vf n (l.take k) < 4294967296000000000 ∧ 10 ^ k ≤ 1000000000 ∧ (k < l.length → 10 ^ k ≤ 100000000) := by
  have h1 := vf_lt (l.take k) n 4294967296 (dig_take h) (by omega)
  rw [List.length_take, Nat.min_eq_left hk] at h1
  have h2 := pow_le10 (show k ≤ 9 by omega)
  refine ⟨?_, h2, fun hk => pow_le10 (show k ≤ 8 by omega)⟩
  have : 4294967296 * 10 ^ k ≤ 4294967296 * 1000000000 := Nat.mul_le_mul_left _ h2
  omega
theorem vf_z {l : List Int} {n k : Nat} (hn : n ≤ 4294967295) (hl : l.length ≤ 9) (hd : isD l) (hk : k < l.length) : vf n (l.take k) < 429496729600000000 := by
  have h1 := vf_lt (l.take k) n 4294967296 (dig_take fun j hj => isD_get hd (by omega)) (by omega)
  rw [List.length_take, Nat.min_eq_left (by omega)] at h1
  have h2 := pow_le10 (show k ≤ 8 by omega)
  have : 4294967296 * 10 ^ k ≤ 4294967296 * 100000000 := Nat.mul_le_mul_left _ h2
  omega
theorem vf_c {l : List Int} {n k : Nat} (hn : n ≤ 4294967295) (hk : k < l.length) (hl : l.length ≤ 9) (h : ∀ j, j < k → 48 ≤ l.getD j 0 ∧ l.getD j 0 ≤ 57) : vf n (l.take k) < 429496729600000000 := by
  have h1 := vf_lt (l.take k) n 4294967296 (dig_take h) (by omega)
  rw [List.length_take, Nat.min_eq_left (by omega)] at h1
  have h2 := pow_le10 (show k ≤ 8 by omega)
  have : 4294967296 * 10 ^ k ≤ 4294967296 * 100000000 := Nat.mul_le_mul_left _ h2
  omega
def rd (p : Nat × Nat × Nat) : List D := [.agg [.c (.int .u32 p.1), .c (.int .u32 p.2.1)], .c (.int .i64 p.2.2)]
end Go.Proofs.YtlonmloicafejaaDoor
