/- The reference's number of a text. No condition but what each says. -/
import Derived.Test.YtlonmloicafejaaDoorWCut
set_option linter.unusedSimpArgs false
set_option linter.unusedVariables false
set_option maxRecDepth 8000
set_option maxHeartbeats 4000000
namespace Go.Proofs.YtlonmloicafejaaDoor
open Go.Eng Go.RowKit
def numI (l : List Int) : Int := match numS l with
  | some u => (u : Int)
  | none => -1
theorem numI_t {l : List Int} {u : Nat} (h : numS l = some u) : numI l = (u : Int) := by unfold numI; rw [h]
theorem numI_f {l : List Int} (h : numS l = none) : numI l = -1 := by unfold numI; rw [h]
theorem numS_nil : numS [] = none := by
  unfold numS
  rw [if_neg]
  rintro ⟨_, _, h⟩
  exact dec_ne _ h
theorem numS_long {l : List Int} (h : 10 < l.length) : numS l = none := by
  unfold numS
  rw [if_neg]
  rintro ⟨h1, _⟩
  omega
theorem numS_bad {l : List Int} {k : Nat} (hk : k < l.length) (h : ¬ (48 ≤ l.getD k 0 ∧ l.getD k 0 ≤ 57)) : numS l = none := by
  cases e : numS l with
  | none => rfl
  | some u =>
    obtain ⟨h1, _⟩ := numS_some e
    exact absurd (dec_isD u (l.getD k 0) (by rw [← h1]; simp only [List.getD, List.getElem?_eq_getElem hk, Option.getD_some]; exact List.getElem_mem _)) h
theorem vf_snoc {l : List Int} {k : Nat} (hk : k < l.length) (a : Nat) : vf a (l.take (k + 1)) = 10 * vf a (l.take k) + (l.getD k 0 - 48).toNat := by
  rw [take_at hk, vf_app, vf, vf]
theorem dig_take {l : List Int} {k : Nat} (h : ∀ j, j < k → 48 ≤ l.getD j 0 ∧ l.getD j 0 ≤ 57) : isD (l.take k) := by
  intro z hz
  obtain ⟨j, hj, rfl⟩ := List.getElem_of_mem hz
  rw [List.length_take] at hj
  have := h j (by omega)
  simp only [List.getD, List.getElem?_eq_getElem (show j < l.length by omega), Option.getD_some] at this
  rw [List.getElem_take]
  exact this
theorem pow_le10 {k m : Nat} (h : k ≤ m) : 10 ^ k ≤ 10 ^ m := Nat.pow_le_pow_right (by decide) h
theorem rnum_giv (l : List Int) (hb : Bytes l) : Giv Tryd.prog 24 [.c (.string (strOfNums l))] (retV [.c (.int .i64 (numI l))]) := by
  refine Giv.of mixed c24 (Nat.le_of_ble_eq_true rfl) ?_
  have hB0 : Bytes [] := Bytes.nil
  by_cases h0 : l = []
  · subst h0
    rw [numI_f numS_nil]
    simp -dsimp -implicitDefEqProofs (disch := first | omega | (simp only [List.length_append, List.length_cons, List.length_nil, List.length_take, List.length_drop]; omega)) only [a24, str_beq hB0 hB0, ↓aPre, aPost, oneW, allOne, retV, retVA, simprocAttr]
    exact post_eq rfl
  by_cases h1 : 10 < l.length
  · rw [numI_f (numS_long h1)]
    simp -dsimp -implicitDefEqProofs (disch := first | omega | (simp only [List.length_append, List.length_cons, List.length_nil, List.length_take, List.length_drop]; omega)) only [a24, str_beq hb hB0, h0, ↓aPre, aPost, oneW, allOne, retV, retVA, simprocAttr]
    exact post_eq rfl
  simp -dsimp -implicitDefEqProofs (disch := first | omega | (simp only [List.length_append, List.length_cons, List.length_nil, List.length_take, List.length_drop]; omega)) only [a24, str_beq hb hB0, h0, ↓aPre, aPost, oneW, allOne, retV, retVA, simprocAttr]
  refine loop_of (fun s => ∃ k : Nat, k ≤ l.length ∧ (∀ j, j < k → 48 ≤ l.getD j 0 ∧ l.getD j 0 ≤ 57) ∧ s.tm 4 = .d (.c (.int .i64 k)) ∧ s.tm 3 = .d (.c (.int .i64 (vf 0 (l.take k) : Nat))) ∧ s.tm 0 = .d (.c (.string (strOfNums l)))) (fun s => l.length - (avN (s.tm 4)).toNat) ?_ ?_
  · refine ⟨0, Nat.zero_le _, fun j hj => by omega, ?_⟩
    have e0 : vf 0 [] = 0 := rfl
    simp -dsimp -implicitDefEqProofs (disch := first | omega | (simp only [List.length_append, List.length_cons, List.length_nil, List.length_take, List.length_drop]; omega)) only [Int.natCast_zero, e0, ↓aPre, aPost, oneW, allOne, retV, retVA, simprocAttr]
  rintro s ⟨k, hk, hj, hs⟩
  have hlt10 := vf_lt (l.take k) 0 1 (dig_take hj) (by decide)
  rw [List.length_take, Nat.one_mul, Nat.min_eq_left hk] at hlt10
  have hpw := pow_le10 (show k ≤ 10 by omega)
  by_cases hlt : k < l.length
  · have hg := str_get hb hlt
    have hz := hb.get k
    have hsn := vf_snoc hlt 0
    obtain ⟨z, hze⟩ : ∃ z, z = l.getD k 0 := ⟨_, rfl⟩
    obtain ⟨n, hn⟩ : ∃ n, n = vf 0 (l.take k) := ⟨_, rfl⟩
    rw [← hze] at hg hz hsn
    rw [← hn] at hs hsn hlt10
    by_cases c1 : 48 ≤ z ∧ z ≤ 57
    · obtain ⟨c1, c2⟩ := c1
      have e1 : 10 * (n : Int) + (z - 48) = ((10 * n + (z - 48).toNat : Nat) : Int) := by omega
      rw [← hsn] at e1
      simp -dsimp -implicitDefEqProofs (disch := first | omega | (simp only [List.length_append, List.length_cons, List.length_nil, List.length_take, List.length_drop]; omega)) only [hs, hg, e1, ↓aPre, aPost, oneW, allOne, retV, retVA, simprocAttr]
      refine round_of ⟨k + 1, by omega, fun j hjk => ?_, ?_⟩ ?_
      · by_cases e : j < k
        · exact hj j e
        · obtain rfl : j = k := by omega
          rw [← hze]; exact ⟨c1, c2⟩
      · simp -dsimp -implicitDefEqProofs (disch := first | omega | (simp only [List.length_append, List.length_cons, List.length_nil, List.length_take, List.length_drop]; omega)) only [hs, ↓aPre, aPost, oneW, allOne, retV, retVA, simprocAttr]
      · simp -dsimp -implicitDefEqProofs (disch := first | omega | (simp only [List.length_append, List.length_cons, List.length_nil, List.length_take, List.length_drop]; omega)) only [hs, ↓aPre, aPost, oneW, allOne, retV, retVA, simprocAttr]
        omega
    · rw [numI_f (numS_bad hlt (by rw [← hze]; exact c1))]
      by_cases c2 : z < 48
      · simp -dsimp -implicitDefEqProofs (disch := first | omega | (simp only [List.length_append, List.length_cons, List.length_nil, List.length_take, List.length_drop]; omega)) only [hs, hg, ↓aPre, aPost, oneW, allOne, retV, retVA, simprocAttr]
        exact post_eq rfl
      · simp -dsimp -implicitDefEqProofs (disch := first | omega | (simp only [List.length_append, List.length_cons, List.length_nil, List.length_take, List.length_drop]; omega)) only [hs, hg, ↓aPre, aPost, oneW, allOne, retV, retVA, simprocAttr]
        exact post_eq rfl
  · have hka : l.take k = l := take_all (by omega)
    rw [hka] at hs hlt10
    obtain ⟨n, hn⟩ : ∃ n, n = vf 0 l := ⟨_, rfl⟩
    rw [← hn] at hs hlt10
    have hu : numS l = if l.length ≤ 10 ∧ n ≤ 4294967295 ∧ dec n = l then some n else none := by unfold numS; rw [← hn]
    by_cases c1 : 4294967295 < n
    · rw [numI_f (by rw [hu, if_neg (by omega)])]
      simp -dsimp -implicitDefEqProofs (disch := first | omega | (simp only [List.length_append, List.length_cons, List.length_nil, List.length_take, List.length_drop]; omega)) only [hs, ↓aPre, aPost, oneW, allOne, retV, retVA, simprocAttr]
      exact post_eq rfl
    · simp -dsimp -implicitDefEqProofs (disch := first | omega | (simp only [List.length_append, List.length_cons, List.length_nil, List.length_take, List.length_drop]; omega)) only [hs, ↓aPre, aPost, oneW, allOne, retV, retVA, simprocAttr]
      refine call_giv (itoa_giv n (by omega)) ?_
      have hdb := dec_bytes n
      by_cases c2 : dec n = l
      · rw [numI_t (by rw [hu, if_pos ⟨by omega, by omega, c2⟩])]
        simp -dsimp -implicitDefEqProofs (disch := first | omega | (simp only [List.length_append, List.length_cons, List.length_nil, List.length_take, List.length_drop]; omega)) only [hs, str_beq hdb hb, c2, ↓aPre, aPost, oneW, allOne, retV, retVA, simprocAttr]
        exact post_eq rfl
      · rw [numI_f (by rw [hu, if_neg (by rintro ⟨_, _, h⟩; exact c2 h)])]
        simp -dsimp -implicitDefEqProofs (disch := first | omega | (simp only [List.length_append, List.length_cons, List.length_nil, List.length_take, List.length_drop]; omega)) only [hs, str_beq hdb hb, c2, ↓aPre, aPost, oneW, allOne, retV, retVA, simprocAttr]
        exact post_eq rfl
end Go.Proofs.YtlonmloicafejaaDoor
