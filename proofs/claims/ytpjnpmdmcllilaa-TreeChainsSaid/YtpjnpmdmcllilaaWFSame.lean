/- Values of any type, of any bytes, and how large they are: the law's walk. No further condition. -/
import Derived.Test.YtpjnpmdmcllilaaWFRR
set_option linter.unusedSimpArgs false
set_option linter.unusedVariables false
set_option maxRecDepth 8000
set_option maxHeartbeats 8000000
namespace Go.Proofs.Ytpjnpmdmcllilaa
open Go.Eng Go.RowKit
theorem same_t (a : List Int) (ha : a.length ≤ 140737488355328) : Giv Try.prog 23 [.lst 1 (li .u64 a), .lst 1 (li .u64 a)] (retV [.c (.bool true)]) := by
  refine Giv.of mixed c23 (Nat.le_of_ble_eq_true rfl) ?_
  simp -dsimp -implicitDefEqProofs (disch := first | omega | (simp only [List.length_append, List.length_cons, List.length_nil, List.length_take, List.length_drop]; omega)) only [a23, ↓aPre, aPost, oneW, allOne, retV, retVA, simprocAttr]
  refine loop_of (fun s => ∃ (k : Nat), k ≤ a.length ∧ s.tm 5 = .d (.c (.int .i64 k)) ∧ s.tm 0 = .d (.lst 1 (li .u64 a)) ∧ s.tm 1 = .d (.lst 1 (li .u64 a))) (fun s => a.length - (avN (s.tm 5)).toNat) ?_ ?_
  · refine ⟨0, Nat.zero_le _, ?_⟩
    simp -dsimp -implicitDefEqProofs (disch := first | omega | (simp only [List.length_append, List.length_cons, List.length_nil, List.length_take, List.length_drop]; omega)) only [Int.natCast_zero, ↓aPre, aPost, oneW, allOne, retV, retVA, simprocAttr]
  rintro s ⟨k, hk, hs⟩
  by_cases hlt : k < a.length
  · simp -dsimp -implicitDefEqProofs (disch := first | omega | (simp only [List.length_append, List.length_cons, List.length_nil, List.length_take, List.length_drop]; omega)) only [hs, ↓aPre, aPost, oneW, allOne, retV, retVA, simprocAttr]
    refine round_of ⟨k + 1, by omega, ?_⟩ ?_
    · simp -dsimp -implicitDefEqProofs (disch := first | omega | (simp only [List.length_append, List.length_cons, List.length_nil, List.length_take, List.length_drop]; omega)) only [hs, ↓aPre, aPost, oneW, allOne, retV, retVA, simprocAttr]
    · simp -dsimp -implicitDefEqProofs (disch := first | omega | (simp only [List.length_append, List.length_cons, List.length_nil, List.length_take, List.length_drop]; omega)) only [hs, ↓aPre, aPost, oneW, allOne, retV, retVA, simprocAttr]
      omega
  · simp -dsimp -implicitDefEqProofs (disch := first | omega | (simp only [List.length_append, List.length_cons, List.length_nil, List.length_take, List.length_drop]; omega)) only [hs, ↓aPre, aPost, oneW, allOne, retV, retVA, simprocAttr]
    exact post_eq rfl
theorem read_e9 {k : Int} (h : ¬ knownP k) (b : List Int) (c : Int) (big : Bool) : Giv Try.prog 38 [.lst 1 (li .u8 b), .c (.int .i64 k), .c (.int .i64 c), .c (.bool big)] (retV [.lst 1 (li .u64 []), .c (.int .i64 9)]) := by
  refine Giv.of mixed c38 (Nat.le_of_ble_eq_true rfl) ?_
  simp -dsimp -implicitDefEqProofs (disch := first | omega | (simp only [List.length_append, List.length_cons, List.length_nil, List.length_take, List.length_drop]; omega)) only [a38, ↓aPre, aPost, oneW, allOne, retV, retVA, simprocAttr]
  refine call_giv (size_f h) ?_
  simp -dsimp -implicitDefEqProofs (disch := first | omega | (simp only [List.length_append, List.length_cons, List.length_nil, List.length_take, List.length_drop]; omega)) only [↓aPre, aPost, oneW, allOne, retV, retVA, simprocAttr]
  exact post_le (by repeat (first | exact leD.nil | exact leE.refl _ | exact leE.nil _ | refine leD.cons ?_ ?_ | refine leE.agg ?_))
theorem rread_e9 {k : Int} (h : ¬ knownP k) (b : List Int) (c : Int) (big : Bool) : Giv Try.prog 33 [.c (.string (strOfNums b)), .c (.int .i64 k), .c (.int .i64 c), .c (.bool big)] (retV [.lst 1 (li .u64 []), .c (.int .i64 9)]) := by
  refine Giv.of mixed c33 (Nat.le_of_ble_eq_true rfl) ?_
  have hs := rsize_giv k
  rw [sz_0 h] at hs
  simp -dsimp -implicitDefEqProofs (disch := first | omega | (simp only [List.length_append, List.length_cons, List.length_nil, List.length_take, List.length_drop]; omega)) only [a33, ↓aPre, aPost, oneW, allOne, retV, retVA, simprocAttr]
  refine call_giv hs ?_
  simp -dsimp -implicitDefEqProofs (disch := first | omega | (simp only [List.length_append, List.length_cons, List.length_nil, List.length_take, List.length_drop]; omega)) only [↓aPre, aPost, oneW, allOne, retV, retVA, simprocAttr]
  exact post_le (by repeat (first | exact leD.nil | exact leE.refl _ | exact leE.nil _ | refine leD.cons ?_ ?_ | refine leE.agg ?_))
theorem sz_pos {k : Int} (h : knownP k) : szI k = 1 ∨ szI k = 2 ∨ szI k = 4 ∨ szI k = 8 := by
  rcases h with rfl | rfl | rfl | rfl | rfl | rfl | rfl | rfl | rfl | rfl | rfl | rfl | rfl | rfl | rfl | rfl <;> decide
theorem read_e1 {k : Int} (h : knownP k) (b : List Int) (c : Int) (hc : c < 0 ∨ 65536 < c) (big : Bool) : Giv Try.prog 38 [.lst 1 (li .u8 b), .c (.int .i64 k), .c (.int .i64 c), .c (.bool big)] (retV [.lst 1 (li .u64 []), .c (.int .i64 1)]) := by
  refine Giv.of mixed c38 (Nat.le_of_ble_eq_true rfl) ?_
  rcases hc with hc | hc
  · simp -dsimp -implicitDefEqProofs (disch := first | omega | (simp only [List.length_append, List.length_cons, List.length_nil, List.length_take, List.length_drop]; omega)) only [a38, ↓aPre, aPost, oneW, allOne, retV, retVA, simprocAttr]
    refine call_giv (size_t h) ?_
    simp -dsimp -implicitDefEqProofs (disch := first | omega | (simp only [List.length_append, List.length_cons, List.length_nil, List.length_take, List.length_drop]; omega)) only [↓aPre, aPost, oneW, allOne, retV, retVA, simprocAttr]
    exact post_le (by repeat (first | exact leD.nil | exact leE.refl _ | exact leE.nil _ | refine leD.cons ?_ ?_ | refine leE.agg ?_))
  · simp -dsimp -implicitDefEqProofs (disch := first | omega | (simp only [List.length_append, List.length_cons, List.length_nil, List.length_take, List.length_drop]; omega)) only [a38, ↓aPre, aPost, oneW, allOne, retV, retVA, simprocAttr]
    refine call_giv (size_t h) ?_
    simp -dsimp -implicitDefEqProofs (disch := first | omega | (simp only [List.length_append, List.length_cons, List.length_nil, List.length_take, List.length_drop]; omega)) only [↓aPre, aPost, oneW, allOne, retV, retVA, simprocAttr]
    exact post_le (by repeat (first | exact leD.nil | exact leE.refl _ | exact leE.nil _ | refine leD.cons ?_ ?_ | refine leE.agg ?_))
theorem rread_e1 {k : Int} (h : knownP k) (b : List Int) (c : Int) (hc : c < 0 ∨ 65536 < c) (big : Bool) : Giv Try.prog 33 [.c (.string (strOfNums b)), .c (.int .i64 k), .c (.int .i64 c), .c (.bool big)] (retV [.lst 1 (li .u64 []), .c (.int .i64 1)]) := by
  refine Giv.of mixed c33 (Nat.le_of_ble_eq_true rfl) ?_
  have hs := rsize_giv k
  have hp := sz_pos h
  have hn0 : ¬ szI k = 0 := by omega
  rcases hc with hc | hc
  · simp -dsimp -implicitDefEqProofs (disch := first | omega | (simp only [List.length_append, List.length_cons, List.length_nil, List.length_take, List.length_drop]; omega)) only [a33, ↓aPre, aPost, oneW, allOne, retV, retVA, simprocAttr]
    refine call_giv hs ?_
    simp -dsimp -implicitDefEqProofs (disch := first | omega | (simp only [List.length_append, List.length_cons, List.length_nil, List.length_take, List.length_drop]; omega)) only [ibeq_f hn0, hn0, ↓aPre, aPost, oneW, allOne, retV, retVA, simprocAttr]
    exact post_le (by repeat (first | exact leD.nil | exact leE.refl _ | exact leE.nil _ | refine leD.cons ?_ ?_ | refine leE.agg ?_))
  · simp -dsimp -implicitDefEqProofs (disch := first | omega | (simp only [List.length_append, List.length_cons, List.length_nil, List.length_take, List.length_drop]; omega)) only [a33, ↓aPre, aPost, oneW, allOne, retV, retVA, simprocAttr]
    refine call_giv hs ?_
    simp -dsimp -implicitDefEqProofs (disch := first | omega | (simp only [List.length_append, List.length_cons, List.length_nil, List.length_take, List.length_drop]; omega)) only [ibeq_f hn0, hn0, ↓aPre, aPost, oneW, allOne, retV, retVA, simprocAttr]
    exact post_le (by repeat (first | exact leD.nil | exact leE.refl _ | exact leE.nil _ | refine leD.cons ?_ ?_ | refine leE.agg ?_))
theorem read_e2 {k : Int} (h : knownP k) (b : List Int) (n : Nat) (hn : n ≤ 65536) (hl : b.length ≤ 1000000) (hc : (b.length : Int) < szI k * n) (big : Bool) : Giv Try.prog 38 [.lst 1 (li .u8 b), .c (.int .i64 k), .c (.int .i64 n), .c (.bool big)] (retV [.lst 1 (li .u64 []), .c (.int .i64 2)]) := by
  refine Giv.of mixed c38 (Nat.le_of_ble_eq_true rfl) ?_
  have hs := size_t h
  rcases sz_pos h with hz | hz | hz | hz
  all_goals
    rw [hz] at hs hc
    simp -dsimp -implicitDefEqProofs (disch := first | omega | (simp only [List.length_append, List.length_cons, List.length_nil, List.length_take, List.length_drop]; omega)) only [a38, ↓aPre, aPost, oneW, allOne, retV, retVA, simprocAttr]
    refine call_giv hs ?_
    simp -dsimp -implicitDefEqProofs (disch := first | omega | (simp only [List.length_append, List.length_cons, List.length_nil, List.length_take, List.length_drop]; omega)) only [↓aPre, aPost, oneW, allOne, retV, retVA, simprocAttr]
    exact post_le (by repeat (first | exact leD.nil | exact leE.refl _ | exact leE.nil _ | refine leD.cons ?_ ?_ | refine leE.agg ?_))
theorem rread_e2 {k : Int} (h : knownP k) (b : List Int) (n : Nat) (hn : n ≤ 65536) (hl : b.length ≤ 1000000) (hc : (b.length : Int) < szI k * n) (big : Bool) : Giv Try.prog 33 [.c (.string (strOfNums b)), .c (.int .i64 k), .c (.int .i64 n), .c (.bool big)] (retV [.lst 1 (li .u64 []), .c (.int .i64 2)]) := by
  refine Giv.of mixed c33 (Nat.le_of_ble_eq_true rfl) ?_
  have hs := rsize_giv k
  rcases sz_pos h with hz | hz | hz | hz
  all_goals
    rw [hz] at hs hc
    simp -dsimp -implicitDefEqProofs (disch := first | omega | (simp only [List.length_append, List.length_cons, List.length_nil, List.length_take, List.length_drop]; omega)) only [a33, ↓aPre, aPost, oneW, allOne, retV, retVA, simprocAttr]
    refine call_giv hs ?_
    simp -dsimp -implicitDefEqProofs (disch := first | omega | (simp only [List.length_append, List.length_cons, List.length_nil, List.length_take, List.length_drop]; omega)) only [↓aPre, aPost, oneW, allOne, retV, retVA, simprocAttr]
    exact post_le (by repeat (first | exact leD.nil | exact leE.refl _ | exact leE.nil _ | refine leD.cons ?_ ?_ | refine leE.agg ?_))
theorem both_any (k c : Int) (b : List Int) (big : Bool) (hl : b.length ≤ 1000) (hB : Bytes b) : ∃ (rl : List Int) (e : Int), rl.length ≤ 65536 ∧
    Giv Try.prog 38 [.lst 1 (li .u8 b), .c (.int .i64 k), .c (.int .i64 c), .c (.bool big)] (retV [.lst 1 (li .u64 rl), .c (.int .i64 e)]) ∧
    Giv Try.prog 33 [.c (.string (strOfNums b)), .c (.int .i64 k), .c (.int .i64 c), .c (.bool big)] (retV [.lst 1 (li .u64 rl), .c (.int .i64 e)]) := by
  by_cases h : knownP k
  · by_cases hc : c < 0 ∨ 65536 < c
    · exact ⟨[], 1, by decide, read_e1 h b c hc big, rread_e1 h b c hc big⟩
    · obtain ⟨n, rfl⟩ : ∃ n : Nat, c = n := ⟨c.toNat, by omega⟩
      by_cases hs : (b.length : Int) < szI k * n
      · exact ⟨[], 2, by decide, read_e2 h b n (by omega) (by omega) hs big, rread_e2 h b n (by omega) (by omega) hs big⟩
      · have hst := size_t h
        by_cases hf : frP k
        · have hz : szI k = 8 := by rcases hf with rfl | rfl <;> decide
          rw [hz] at hs hst
          refine ⟨tab (elf b big) n, 0, by rw [tab_len]; omega, read_f k hst (parts_2 hf) b n big (by omega) (by omega) hB (by omega), rread_f k hz (decide_eq_true hf) b n big (by omega) (by omega) hB (by omega)⟩
        · have hp := parts_1 h hf
          rcases sz_pos h with hz | hz | hz | hz
          · rw [hz] at hs hst hp
            exact ⟨tab (el1 1 b big) n, 0, by rw [tab_len]; omega, read_1 k hst hp b n big (by omega) (by omega) hB (by omega), rread_1 k hz (decide_eq_false hf) b n big (by omega) (by omega) hB (by omega)⟩
          · rw [hz] at hs hst hp
            exact ⟨tab (el1 2 b big) n, 0, by rw [tab_len]; omega, read_2 k hst hp b n big (by omega) (by omega) hB (by omega), rread_2 k hz (decide_eq_false hf) b n big (by omega) (by omega) hB (by omega)⟩
          · rw [hz] at hs hst hp
            exact ⟨tab (el1 4 b big) n, 0, by rw [tab_len]; omega, read_4 k hst hp b n big (by omega) (by omega) hB (by omega), rread_4 k hz (decide_eq_false hf) b n big (by omega) (by omega) hB (by omega)⟩
          · rw [hz] at hs hst hp
            exact ⟨tab (el1 8 b big) n, 0, by rw [tab_len]; omega, read_8 k hst hp b n big (by omega) (by omega) hB (by omega), rread_8 k hz (decide_eq_false hf) b n big (by omega) (by omega) hB (by omega)⟩
  · exact ⟨[], 9, by decide, read_e9 h b c big, rread_e9 h b c big⟩
def wholeP (k : Int) : Prop := k = 1 ∨ k = 3 ∨ k = 4 ∨ k = 13 ∨ k = 16 ∨ k = 18
instance (k : Int) : Decidable (wholeP k) := by unfold wholeP; infer_instance
theorem big_giv (k : Int) : Giv Try.prog 37 [.c (.int .i64 k)] (retV [.c (.bool (decide (16 ≤ k ∧ k ≤ 18)))]) := by
  refine Giv.of mixed c37 (Nat.le_of_ble_eq_true rfl) ?_
  by_cases h16 : k = 16
  · subst h16
    simp -dsimp -implicitDefEqProofs (disch := first | omega | (simp only [List.length_append, List.length_cons, List.length_nil, List.length_take, List.length_drop]; omega)) only [a37, ↓aPre, aPost, oneW, allOne, retV, retVA, simprocAttr]
    exact post_eq rfl
  by_cases h17 : k = 17
  · subst h17
    simp -dsimp -implicitDefEqProofs (disch := first | omega | (simp only [List.length_append, List.length_cons, List.length_nil, List.length_take, List.length_drop]; omega)) only [a37, ↓aPre, aPost, oneW, allOne, retV, retVA, simprocAttr]
    exact post_eq rfl
  by_cases h18 : k = 18
  · subst h18
    simp -dsimp -implicitDefEqProofs (disch := first | omega | (simp only [List.length_append, List.length_cons, List.length_nil, List.length_take, List.length_drop]; omega)) only [a37, ↓aPre, aPost, oneW, allOne, retV, retVA, simprocAttr]
    exact post_eq rfl
  simp -dsimp -implicitDefEqProofs (disch := first | omega | (simp only [List.length_append, List.length_cons, List.length_nil, List.length_take, List.length_drop]; omega)) only [a37, ibeq_f h16, ibeq_f h17, ibeq_f h18, h16, h17, h18, ↓aPre, aPost, oneW, allOne, retV, retVA, simprocAttr]
  exact post_eq rfl
end Go.Proofs.Ytpjnpmdmcllilaa
