/- A text cut at the first place of a byte; whether a byte is in it; the reference's first place and number. No condition but what each says. -/
import Derived.Test.YtlonmloicafejaaDoorWNum
import Derived.Test.YtlonmloicafejaaDoorWF
set_option linter.unusedSimpArgs false
set_option linter.unusedVariables false
set_option maxRecDepth 8000
set_option maxHeartbeats 4000000
namespace Go.Proofs.YtlonmloicafejaaDoor
open Go.Eng Go.RowKit
/-- what lies behind a byte -/
def bhd (l : List Int) (c : Int) : List Int := l.drop (pos l c + 1)
def inn (l : List Int) (c : Int) : Bool := decide (pos l c < l.length)
theorem fnd_t {l : List Int} {c : Int} (h : pos l c < l.length) : fnd l c = (pos l c : Int) := if_pos h
theorem fnd_f {l : List Int} {c : Int} (h : ¬ pos l c < l.length) : fnd l c = -1 := if_neg h
theorem cut28_giv (l : List Int) (c : Int) (hb : Bytes l) (hc : 0 ≤ c ∧ c < 256) (hl : l.length ≤ 140737488355328) : Giv Tryd.prog 28 [.c (.string (strOfNums l)), .c (.string (strOfNums [c]))] (retV [.c (.string (strOfNums (l.take (pos l c)))), .c (.string (strOfNums (bhd l c))), .c (.bool (inn l c))]) := by
  have g := idx_giv l c hb hc
  have hp := pos_le l c
  refine Giv.of mixed c28 (Nat.le_of_ble_eq_true rfl) ?_
  unfold inn bhd
  by_cases h : pos l c < l.length
  · rw [fnd_t h] at g
    obtain ⟨p, hpe⟩ : ∃ p, p = pos l c := ⟨_, rfl⟩
    rw [← hpe] at g h hp ⊢
    obtain ⟨q, hq⟩ : ∃ q, q = p + 1 := ⟨_, rfl⟩
    rw [← hq]
    have e2 : (p : Int) + 1 = (q : Int) := by omega
    have e6 : (l.drop q).take (l.length - q) = l.drop q := take_all (by rw [List.length_drop]; omega)
    simp -dsimp -implicitDefEqProofs (disch := first | omega | (simp only [List.length_append, List.length_cons, List.length_nil, List.length_take, List.length_drop]; omega)) only [a28, ↓aPre, aPost, oneW, allOne, retV, retVA, simprocAttr]
    refine call_giv g ?_
    simp -dsimp -implicitDefEqProofs (disch := first | omega | (simp only [List.length_append, List.length_cons, List.length_nil, List.length_take, List.length_drop]; omega)) only [e2, e6, List.length_singleton, Int.natCast_one, ↓aPre, aPost, oneW, allOne, retV, retVA, simprocAttr]
    exact post_eq (by simp [h])
  · rw [fnd_f h] at g
    have e1 : l.take (pos l c) = l := take_all (by omega)
    have e2 : l.drop (pos l c + 1) = [] := List.drop_of_length_le (by omega)
    rw [e1, e2]
    simp -dsimp -implicitDefEqProofs (disch := first | omega | (simp only [List.length_append, List.length_cons, List.length_nil, List.length_take, List.length_drop]; omega)) only [a28, ↓aPre, aPost, oneW, allOne, retV, retVA, simprocAttr]
    refine call_giv g ?_
    simp -dsimp -implicitDefEqProofs (disch := first | omega | (simp only [List.length_append, List.length_cons, List.length_nil, List.length_take, List.length_drop]; omega)) only [↓aPre, aPost, oneW, allOne, retV, retVA, simprocAttr]
    exact post_eq (by simp [h])
theorem cut_giv (l : List Int) (c : Int) (hb : Bytes l) (hc : 0 ≤ c ∧ c < 256) (hl : l.length ≤ 140737488355328) : Giv Tryd.prog 18 [.c (.string (strOfNums l)), .c (.string (strOfNums [c]))] (retV [.c (.string (strOfNums (l.take (pos l c)))), .c (.string (strOfNums (bhd l c))), .c (.bool (inn l c))]) := by
  refine Giv.of mixed c18 (Nat.le_of_ble_eq_true rfl) ?_
  simp -dsimp -implicitDefEqProofs (disch := first | omega | (simp only [List.length_append, List.length_cons, List.length_nil, List.length_take, List.length_drop]; omega)) only [a18, ↓aPre, aPost, oneW, allOne, retV, retVA, simprocAttr]
  refine call_giv (cut28_giv l c hb hc hl) ?_
  simp -dsimp -implicitDefEqProofs (disch := first | omega | (simp only [List.length_append, List.length_cons, List.length_nil, List.length_take, List.length_drop]; omega)) only [↓aPre, aPost, oneW, allOne, retV, retVA, simprocAttr]
  exact post_eq rfl
theorem has_giv (l : List Int) (c : Int) (hb : Bytes l) (hc : 0 ≤ c ∧ c < 256) : Giv Tryd.prog 20 [.c (.string (strOfNums l)), .c (.string (strOfNums [c]))] (retV [.c (.bool (inn l c))]) := by
  have g29 : Giv Tryd.prog 29 [.c (.string (strOfNums l)), .c (.string (strOfNums [c]))] (retV [.c (.int .i64 (fnd l c))]) := by
    refine Giv.of mixed c29 (Nat.le_of_ble_eq_true rfl) ?_
    simp -dsimp -implicitDefEqProofs (disch := first | omega | (simp only [List.length_append, List.length_cons, List.length_nil, List.length_take, List.length_drop]; omega)) only [a29, ↓aPre, aPost, oneW, allOne, retV, retVA, simprocAttr]
    refine call_giv (idx_giv l c hb hc) ?_
    simp -dsimp -implicitDefEqProofs (disch := first | omega | (simp only [List.length_append, List.length_cons, List.length_nil, List.length_take, List.length_drop]; omega)) only [↓aPre, aPost, oneW, allOne, retV, retVA, simprocAttr]
    exact post_eq rfl
  refine Giv.of mixed c20 (Nat.le_of_ble_eq_true rfl) ?_
  unfold inn
  by_cases h : pos l c < l.length
  · rw [fnd_t h] at g29
    simp -dsimp -implicitDefEqProofs (disch := first | omega | (simp only [List.length_append, List.length_cons, List.length_nil, List.length_take, List.length_drop]; omega)) only [a20, ↓aPre, aPost, oneW, allOne, retV, retVA, simprocAttr]
    refine call_giv g29 ?_
    simp -dsimp -implicitDefEqProofs (disch := first | omega | (simp only [List.length_append, List.length_cons, List.length_nil, List.length_take, List.length_drop]; omega)) only [↓aPre, aPost, oneW, allOne, retV, retVA, simprocAttr]
    exact post_eq (by simp [h])
  · rw [fnd_f h] at g29
    simp -dsimp -implicitDefEqProofs (disch := first | omega | (simp only [List.length_append, List.length_cons, List.length_nil, List.length_take, List.length_drop]; omega)) only [a20, ↓aPre, aPost, oneW, allOne, retV, retVA, simprocAttr]
    refine call_giv g29 ?_
    simp -dsimp -implicitDefEqProofs (disch := first | omega | (simp only [List.length_append, List.length_cons, List.length_nil, List.length_take, List.length_drop]; omega)) only [↓aPre, aPost, oneW, allOne, retV, retVA, simprocAttr]
    exact post_eq (by simp [h])
theorem find_giv (l : List Int) (c : Int) (hb : Bytes l) (hc : 0 ≤ c ∧ c < 256) (hl : l.length ≤ 140737488355328) : Giv Tryd.prog 23 [.c (.string (strOfNums l)), .c (.int .u8 c)] (retV [.c (.int .i64 (fnd l c))]) := by
  refine Giv.of mixed c23 (Nat.le_of_ble_eq_true rfl) ?_
  simp -dsimp -implicitDefEqProofs (disch := first | omega | (simp only [List.length_append, List.length_cons, List.length_nil, List.length_take, List.length_drop]; omega)) only [a23, ↓aPre, aPost, oneW, allOne, retV, retVA, simprocAttr]
  refine loop_of (fun s => ∃ k : Nat, k ≤ l.length ∧ (∀ j, j < k → ¬ l.getD j 0 = c) ∧ s.tm 5 = .d (.c (.int .i64 k)) ∧ s.tm 0 = .d (.c (.string (strOfNums l))) ∧ s.tm 1 = .d (.c (.int .u8 c))) (fun s => l.length - (avN (s.tm 5)).toNat) ?_ ?_
  · refine ⟨0, Nat.zero_le _, fun j hj => by omega, ?_⟩
    simp -dsimp -implicitDefEqProofs (disch := first | omega | (simp only [List.length_append, List.length_cons, List.length_nil, List.length_take, List.length_drop]; omega)) only [Int.natCast_zero, ↓aPre, aPost, oneW, allOne, retV, retVA, simprocAttr]
  rintro s ⟨k, hk, hj, hs⟩
  by_cases hlt : k < l.length
  · have hg := str_get hb hlt
    by_cases h : l.getD k 0 = c
    · have hp := pos_at l c k hlt hj h
      rw [fnd_t (by omega), hp]
      simp -dsimp -implicitDefEqProofs (disch := first | omega | (simp only [List.length_append, List.length_cons, List.length_nil, List.length_take, List.length_drop]; omega)) only [hs, hg, h, ↓aPre, aPost, oneW, allOne, retV, retVA, simprocAttr]
      exact post_eq rfl
    · have hz := hb.get k
      obtain ⟨z, hze⟩ : ∃ z, z = l.getD k 0 := ⟨_, rfl⟩
      rw [← hze] at hg h hz
      simp -dsimp -implicitDefEqProofs (disch := first | omega | (simp only [List.length_append, List.length_cons, List.length_nil, List.length_take, List.length_drop]; omega)) only [hs, hg, h, ↓aPre, aPost, oneW, allOne, retV, retVA, simprocAttr]
      refine round_of ⟨k + 1, by omega, fun j hjk => ?_, ?_⟩ ?_
      · by_cases e : j < k
        · exact hj j e
        · obtain rfl : j = k := by omega
          rw [← hze]; exact h
      · simp -dsimp -implicitDefEqProofs (disch := first | omega | (simp only [List.length_append, List.length_cons, List.length_nil, List.length_take, List.length_drop]; omega)) only [hs, ↓aPre, aPost, oneW, allOne, retV, retVA, simprocAttr]
      · simp -dsimp -implicitDefEqProofs (disch := first | omega | (simp only [List.length_append, List.length_cons, List.length_nil, List.length_take, List.length_drop]; omega)) only [hs, ↓aPre, aPost, oneW, allOne, retV, retVA, simprocAttr]
        omega
  · have hp := pos_none l c (fun j h => hj j (by omega))
    rw [fnd_f (by omega)]
    simp -dsimp -implicitDefEqProofs (disch := first | omega | (simp only [List.length_append, List.length_cons, List.length_nil, List.length_take, List.length_drop]; omega)) only [hs, ↓aPre, aPost, oneW, allOne, retV, retVA, simprocAttr]
    exact post_eq rfl
end Go.Proofs.YtlonmloicafejaaDoor
